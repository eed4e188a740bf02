/- Scan7 -/
import Derived.Test.YtgdmdbdljmlkkaaGreatDoorTz27
set_option maxRecDepth 100000
set_option linter.unusedVariables false
set_option linter.unusedSimpArgs false
namespace Go.Proofs.YtgdmdbdljmlkkaaGreatDoor
open Go.RowKit
theorem endN_eq {f : FR} (h : 0 ≤ f.last) (D : DS) : endN (nameI (max f.last 1)) f D = endG doP f D := by
 unfold endN endG
 by_cases h0 : f.last = 0
 · rw [if_pos h0, if_pos h0]; rfl
 · rw [if_neg h0, if_neg h0]
   have hm : max f.last 1 = f.last := by omega
   rw [hm]
   show seqG (repairN (nameI f.last) f D) (fun D => seqG (trimG doP f D) (fun D => seqG (syncD D (nameI f.last)) (fun D => (D, 0)))) = _
   have e : ∀ D, seqG (syncD D (nameI f.last)) (fun D => (D, 0)) = syncD D (nameI f.last) := fun D => seqG_ret _
   simp only [e]
   rfl
theorem findS_last (D : DS) : 0 ≤ (findS D).last ∧ (findS D).last ≤ 99999999 := by
 by_cases hd : D.down = true
 · unfold findS; rw [if_pos hd]; exact ⟨by decide, by decide⟩
 · have hd' : D.down = false := by simpa using hd
   by_cases hc : (findS D).code = 0
   · rcases find_shape hd' hc with ⟨-, h⟩ | ⟨-, k, -, -, -, -, -, -, h1, h2⟩
     · rw [h]; exact ⟨by decide, by decide⟩
     · omega
   · have : findS D = FR.bad 11 := by
       unfold findS at hc ⊢
       rw [hd'] at hc ⊢
       simp only [Bool.false_eq_true, if_false] at hc ⊢
       unfold findG at hc ⊢
       split at hc
       · exact absurd rfl hc
       · rename_i h1
         rw [if_neg h1]
         split at hc
         · exact absurd rfl hc
         · rename_i h2; rw [if_neg h2]
     rw [this]; exact ⟨by decide, by decide⟩
theorem findS_small {D : DS} {s n : Nat} (h : Bnd D s n) : (findS D).front.length ≤ s ∧ (findS D).older.length ≤ n ∧ (findS D).torn ≤ s := by
 have hlen : (segsD D).length ≤ n := by have := refL_length (D.files.map DF.name); rw [List.length_map] at this; have := h.len; unfold segsD; omega
 have hc : ∀ m, (contD D m).length ≤ s := fun m => by have := readD_len D (nameI m); have := h.sum; unfold contD; omega
 unfold findS
 split
 · exact ⟨Nat.zero_le _, Nat.zero_le _, Nat.zero_le _⟩
 · unfold findG
   split
   · exact ⟨Nat.zero_le _, Nat.zero_le _, Nat.zero_le _⟩
   · split
     · have h1 := hc (lastN (segsD D))
       refine ⟨?_, ?_, ?_⟩
       · show ((contD D (lastN (segsD D))).take _).length ≤ s; rw [List.length_take]; omega
       · show ((segsD D).take _).length ≤ n; rw [List.length_take]; omega
       · show (contD D (lastN (segsD D))).length - _ ≤ s; omega
     · exact ⟨Nat.zero_le _, Nat.zero_le _, Nat.zero_le _⟩
theorem heap4 (w : World) (a b c d : Obj) : ((((w.alloc a).alloc b).alloc c).alloc d).heap[w.heap.size]? = some a ∧ ((((w.alloc a).alloc b).alloc c).alloc d).heap[w.heap.size + 1]? = some b ∧ ((((w.alloc a).alloc b).alloc c).alloc d).heap[w.heap.size + 1 + 1]? = some c ∧
   ((((w.alloc a).alloc b).alloc c).alloc d).heap[w.heap.size + 1 + 1 + 1]? = some d ∧ Below w.heap.size w ((((w.alloc a).alloc b).alloc c).alloc d) := by
 have s1 : (w.alloc a).heap.size = w.heap.size + 1 := World.size_alloc ..
 have s2 : ((w.alloc a).alloc b).heap.size = w.heap.size + 1 + 1 := by rw [World.size_alloc, s1]
 have s3 : (((w.alloc a).alloc b).alloc c).heap.size = w.heap.size + 1 + 1 + 1 := by rw [World.size_alloc, s2]
 have h0 : (w.alloc a).heap[w.heap.size]? = some a := heap_alloc_new w a
 have h1 : ((w.alloc a).alloc b).heap[w.heap.size + 1]? = some b := by rw [← s1]; exact heap_alloc_new _ b
 have h2 : (((w.alloc a).alloc b).alloc c).heap[w.heap.size + 1 + 1]? = some c := by rw [← s2]; exact heap_alloc_new _ c
 have h3 : ((((w.alloc a).alloc b).alloc c).alloc d).heap[w.heap.size + 1 + 1 + 1]? = some d := by rw [← s3]; exact heap_alloc_new _ d
 refine ⟨?_, ?_, ?_, h3, (((Below.refl _ _).alloc (Nat.le_refl _) _).alloc (by omega) _).alloc (by omega) _ |>.alloc (by omega) _⟩
 · rw [Below.heap_alloc _ _ _ (by omega), Below.heap_alloc _ _ _ (by omega), Below.heap_alloc _ _ _ (by omega)]; exact h0
 · rw [Below.heap_alloc _ _ _ (by omega), Below.heap_alloc _ _ _ (by omega)]; exact h1
 · rw [Below.heap_alloc _ _ _ (by omega)]; exact h2
def OpenP (w : World) (x : Value) (S : Nat → Prop) (most : Int) (f : FR) (r : DS × Int) : Ending → World → Prop := fun e w' =>
 ∃ SS : Nat → Prop, (DRep w' x r.1 SS ∧ (∀ k, SS k → (S k ∨ w.heap.size ≤ k) ∧ k < w'.heap.size) ∧ Chg S w w') ∧
   ((r.2 ≠ 0 ∧ e = .returned (.tuple #[.pointer none, .slice none 0 0, .int .i64 r.2])) ∨
    (r.2 = 0 ∧ ∃ bl ra rc, ∃ X : List RX, e = .returned (.tuple #[.pointer (some ⟨bl, 0, none⟩), .slice ra X.length rc, .int .i64 0]) ∧
      w'.heap[bl]? = some (.cells #[.int .i64 (max f.last 1), .int .i64 f.front.length, .int .i64 0, x, .int .i64 most] 148 (0, 0)) ∧ w.heap.size ≤ bl ∧ ¬ SS bl ∧
      Row w' 72 1 (.slice ra X.length rc) X.length (X.map RX.v) (fun k => w.heap.size ≤ k ∧ ¬ SS k ∧ k ≠ bl) ∧ (∀ y ∈ X, Row w' 5 1 y.v y.l.length (byts y.l) (fun k => w.heap.size ≤ k ∧ ¬ SS k ∧ k ≠ bl)) ∧ X.map RX.l = f.recs))
set_option maxHeartbeats 4000000 in
theorem scopen_any (x : Value) (D : DS) (S : Nat → Prop) (most : Int) (w : World) (h : DRep w x D S) (hS : ∀ k, S k → k < w.heap.size) (hT : ∀ w', Chg S w w' → Tab w') {s n : Nat} (hb : Bnd D s n) (hs : s ≤ 20000) (hn : n ≤ 900) :
   Calls Tryz.prog 27 #[x, .int .i64 most] w (OpenP w x S most (findS D) (openS doP D)) := by
 have HD := Lib.hid h
 have HS := Lib.hid hS
 have HT := Lib.hid hT
 have HBN := Lib.hid hb
 obtain ⟨hfl, hol, hto⟩ := findS_small hb
 obtain ⟨hla0, hla1⟩ := findS_last D
 have hb1 : Below w.heap.size w (w.alloc (.cells #[x] 26)) := (Below.refl _ _).alloc (Nat.le_refl _) _
 have HX1 : Hid ((w.alloc (.cells #[x] 26)).heap[w.heap.size]? = some (.cells #[x] 26 (0, 0))) := heap_alloc_new _ _
 have HFI : Hid (Calls Tryz.prog 74 #[x] (w.alloc (.cells #[x] 26)) (FindP (w.alloc (.cells #[x] 26)) (findS D))) :=
   find_any x D S _ (h.frame (fun k hk hl => hb1.block k hl)) (hT _ (Chg.ofBelow hb1)) (by have := hb.len; omega) (by have := hb.sum; omega) (fun f hf => by have := hb.nm f hf; unfold maxLen; omega)
 have HB1 := Lib.hid hb1
 obtain ⟨RR, hRR⟩ : ∃ r, r = openS doP D := ⟨_, rfl⟩
 have HRR : Hid (RR = if (findS D).code ≠ 0 then (D, (findS D).code) else seqG (wipeG doP D [cutNm, newNm]) (endG doP (findS D))) := hRR
 rw [← hRR]
 obtain ⟨bx, bm, col, pv, rfl, -⟩ := h
 generalize findS D = f at *
 have hmf : ∀ fn first cap w, (Instr.makeFunc fn first cap).run Tryz.prog w = .ok (.func fn first cap) w := fun _ _ _ _ => rfl
 clear hS hT hb hRR hb1
 go_enter Tryz.func27, Tryz.ntmps27
 go_upto_region 1 with fail
 generalize w.alloc (.cells #[.pointer (some ⟨bx, 0, none⟩)] 26) = w1 at *
 have hc1 := cellAt HX1.out 0 rfl
 have hsz1 := lt_of_heap HX1.out
 go_wp2_with fail
 refine HFI.out.mono ?_
 rintro e w2 ⟨hb2, ⟨hfc, rfl⟩ | ⟨hfc, pf, rfl, hfo⟩⟩
 · have HB2 := Lib.hid (HB1.out.trans (hb2.mono HB1.out.size))
   have hR : RR = (D, f.code) := by rw [HRR.out, if_pos hfc]
   have hfb : (f.code == 0) = false := by simpa using hfc
   have hfb2 : (f.code != 0) = true := by simpa using hfc
   clear hb2 HFI hc1
   go_wp2
   (try simp only [Exit.inBlock, Exit.then])
   refine bodyPost_ret (results_tmp3 rfl _ _ _) rfl ?_
   rw [hR]
   have hbz : Below w.heap.size w2 (w2.alloc (.cells #[.pointer none] 129)) := (Below.refl _ _).alloc HB2.out.size _
   exact ⟨S, ⟨HD.out.frame (fun k hk hl => (HB2.out.trans hbz).block k hl), fun k hk => ⟨.inl hk, by have := HS.out k hk; have := (HB2.out.trans hbz).size; omega⟩, Chg.ofBelow (HB2.out.trans hbz)⟩, .inl ⟨hfc, rfl⟩⟩
 · obtain ⟨oa, oc, ra, rc, fa, fc, X, hblk, hold, hoa, hrow, hrx, hre, hfr, hfa, hpf⟩ := hfo
   have hR : RR = seqG (wipeG doP D [cutNm, newNm]) (endG doP f) := by rw [HRR.out, if_neg (by simp [hfc])]
   rw [hfc] at *
   have HB2 := Lib.hid (HB1.out.trans (hb2.mono HB1.out.size))
   have HP3 := Lib.hid ((Below.heap_alloc w2 (.cells #[.pointer (some ⟨pf, 0, none⟩)] 129) _ (lt_of_heap hblk)).trans hblk)
   have p1 := cellAt HP3.out 1 rfl
   have HF3 : Hid ((w2.alloc (.cells #[.pointer (some ⟨pf, 0, none⟩)] 129)).heap[w2.heap.size]? = some (.cells #[.pointer (some ⟨pf, 0, none⟩)] 129 (0, 0))) := heap_alloc_new _ _
   have q1 := cellAt HF3.out 0 rfl
   have HB3 : Hid (Below w2.heap.size w2 (w2.alloc (.cells #[.pointer (some ⟨pf, 0, none⟩)] 129))) := (Below.refl _ _).alloc (Nat.le_refl _) _
   go_upto_region 4 with fail
   generalize w2.alloc (.cells #[.pointer (some ⟨pf, 0, none⟩)] 129) = w3 at *
   have HBW3 := Lib.hid (HB2.out.trans (HB3.out.mono HB2.out.size))
   go_wp2_with fail
   refine (segName_any (max f.last 1) w3 (HT.out _ (Chg.ofBelow HBW3.out))).mono ?_
   rintro e w4 ⟨rfl, hb4⟩
   have HB4 := Lib.hid hb4
   clear hb4 p1 q1 hc1
   go_wp2_with fail
   obtain ⟨n0, n1, n2, n3, nb⟩ := heap4 w4 (.cells #[.string (nameI (max f.last 1))] 9) (.cells #[.func (.func 75) #[] #[.pointer (some ⟨w2.heap.size, 0, none⟩), .pointer (some ⟨w.heap.size, 0, none⟩), .pointer (some ⟨w4.heap.size, 0, none⟩)]] 77) (.cells #[.func (.func 82) #[] #[.pointer (some ⟨w2.heap.size, 0, none⟩), .pointer (some ⟨w.heap.size, 0, none⟩)]] 77) (.cells #[.func (.func 86) #[] #[.pointer (some ⟨w.heap.size, 0, none⟩)], .func (.func 84) #[] #[.pointer (some ⟨w2.heap.size, 0, none⟩), .pointer (some ⟨w.heap.size, 0, none⟩), .pointer (some ⟨w4.heap.size, 0, none⟩), .pointer (some ⟨w4.heap.size + 1, 0, none⟩), .pointer (some ⟨w4.heap.size + 1 + 1, 0, none⟩)]] 77)
   generalize (((w4.alloc (.cells #[.string (nameI (max f.last 1))] 9)).alloc (.cells #[.func (.func 75) #[] #[.pointer (some ⟨w2.heap.size, 0, none⟩), .pointer (some ⟨w.heap.size, 0, none⟩), .pointer (some ⟨w4.heap.size, 0, none⟩)]] 77)).alloc (.cells #[.func (.func 82) #[] #[.pointer (some ⟨w2.heap.size, 0, none⟩), .pointer (some ⟨w.heap.size, 0, none⟩)]] 77)).alloc (.cells #[.func (.func 86) #[] #[.pointer (some ⟨w.heap.size, 0, none⟩)], .func (.func 84) #[] #[.pointer (some ⟨w2.heap.size, 0, none⟩), .pointer (some ⟨w.heap.size, 0, none⟩), .pointer (some ⟨w4.heap.size, 0, none⟩), .pointer (some ⟨w4.heap.size + 1, 0, none⟩), .pointer (some ⟨w4.heap.size + 1 + 1, 0, none⟩)]] 77) = wt at *
   have HBT := Lib.hid (HBW3.out.trans ((HB4.out.trans (nb.mono HB4.out.size)).mono HBW3.out.size))
   have hbt2 : Below w2.heap.size w2 wt := HB3.out.trans ((HB4.out.trans (nb.mono HB4.out.size)).mono HB3.out.size)
   have hbt3 : Below w3.heap.size w3 wt := HB4.out.trans (nb.mono HB4.out.size)
   have hw12 : w1.heap.size ≤ w2.heap.size := hb2.size
   have hw23 : w2.heap.size ≤ w3.heap.size := HB3.out.size
   have hw34 : w3.heap.size ≤ w4.heap.size := HB4.out.size
   have hw4t : w4.heap.size ≤ wt.heap.size := nb.size
   have hpl := lt_of_heap hblk
   have HE : Hid (Env (.pointer (some ⟨bx, 0, none⟩)) w.heap.size w2.heap.size w4.heap.size pf f (nameI (max f.last 1)) oa oc (.slice ra X.length rc) fa fc wt S) := by
     have hns : ∀ k, w.heap.size ≤ k → ¬ S k := fun k hk h => by have := HS.out k h; omega
     refine ⟨⟨?_, hns _ (Nat.le_refl _)⟩, ⟨(hbt3.block _ (lt_of_heap HF3.out)).trans HF3.out, hns _ (by omega)⟩, ⟨n0, hns _ (by omega)⟩, ⟨(hbt2.block _ hpl).trans hblk, hns _ (by omega)⟩, ⟨hold.later hbt2, fun ad had => ⟨hns _ (by have := (hoa ad had).1; omega), by have := (hoa ad had).2; omega⟩⟩, ⟨hfr.later hbt2, fun ad had => ⟨hns _ (by have := (hfa ad had).1; omega), by have := (hfa ad had).2; omega⟩⟩, fun w' hc => HT.out w' ((Chg.ofBelow (S := S) HBT.out).trans hc (fun k hk => .inl hk)), fun k hk => by have := HS.out k hk; omega⟩
     exact ((hb2.trans (hbt2.mono hb2.size)).block _ hsz1).trans HX1.out
   have hlaI : 0 ≤ f.last := hla0
   have HCALL : Hid (Calls Tryz.prog 76 #[.slice (some ⟨w4.heap.size + 1 + 1 + 1, 0, none⟩) 2 2] wt (DPost wt (.pointer (some ⟨bx, 0, none⟩)) S (seqAll [fun D => wipeG doP D [cutNm, newNm], endN (nameI (max f.last 1)) f] D))) := by
     refine tryops_any (.pointer (some ⟨bx, 0, none⟩)) (fun w' T => Env (.pointer (some ⟨bx, 0, none⟩)) w.heap.size w2.heap.size w4.heap.size pf f (nameI (max f.last 1)) oa oc (.slice ra X.length rc) fa fc w' T ∧ (w'.heap[w4.heap.size + 1]? = some (.cells #[.func (.func 75) #[] #[.pointer (some ⟨w2.heap.size, 0, none⟩), .pointer (some ⟨w.heap.size, 0, none⟩), .pointer (some ⟨w4.heap.size, 0, none⟩)]] 77 (0, 0)) ∧ ¬ T (w4.heap.size + 1)) ∧ (w'.heap[w4.heap.size + 1 + 1]? = some (.cells #[.func (.func 82) #[] #[.pointer (some ⟨w2.heap.size, 0, none⟩), .pointer (some ⟨w.heap.size, 0, none⟩)]] 77 (0, 0)) ∧ ¬ T (w4.heap.size + 1 + 1)) ∧ (w'.heap[w4.heap.size + 1 + 1 + 1]? = some (.cells #[.func (.func 86) #[] #[.pointer (some ⟨w.heap.size, 0, none⟩)], .func (.func 84) #[] #[.pointer (some ⟨w2.heap.size, 0, none⟩), .pointer (some ⟨w.heap.size, 0, none⟩), .pointer (some ⟨w4.heap.size, 0, none⟩), .pointer (some ⟨w4.heap.size + 1, 0, none⟩), .pointer (some ⟨w4.heap.size + 1 + 1, 0, none⟩)]] 77 (0, 0)) ∧ ¬ T (w4.heap.size + 1 + 1 + 1)))
       (fun w' T w'' h1 hc => ⟨h1.1.step hc, keep_blk h1.2.1 hc, keep_blk h1.2.2.1 hc, keep_blk h1.2.2.2 hc⟩)
       [(86, #[.pointer (some ⟨w.heap.size, 0, none⟩)]), (84, #[.pointer (some ⟨w2.heap.size, 0, none⟩), .pointer (some ⟨w.heap.size, 0, none⟩), .pointer (some ⟨w4.heap.size, 0, none⟩), .pointer (some ⟨w4.heap.size + 1, 0, none⟩), .pointer (some ⟨w4.heap.size + 1 + 1, 0, none⟩)])]
       _ rfl (by simp) ?eg (w4.heap.size + 1 + 1 + 1) ?hb (fun k D => k ≤ 1 → Bnd D s n) ?hS ?hB wt S D ?h0 (HD.out.frame (fun k hk hl => HBT.out.block k hl)) (fun k hk => by have := HS.out k hk; omega) (fun _ => HBN.out)
     case h0 =>
       have hns : ∀ k, w.heap.size ≤ k → ¬ S k := fun k hk h => by have := HS.out k h; omega
       exact ⟨HE.out, ⟨n1, hns _ (by omega)⟩, ⟨n2, hns _ (by omega)⟩, ⟨n3, hns _ (by omega)⟩⟩
     case eg =>
       intro g hg
       simp only [List.mem_cons, List.not_mem_nil, or_false] at hg
       rcases hg with rfl | rfl
       · exact enters_of Tryz.func86 (by kernel_rfl) rfl
       · exact enters_of Tryz.func84 (by kernel_rfl) rfl
     case hb =>
       rintro w' T ⟨-, -, -, h2, -⟩ j hlt
       refine cellAt h2 j ?_
       match j, hlt with
       | 0, _ => rfl
       | 1, _ => rfl
     case hS =>
       intro k hk w' T D1 h1 h2 h3
       match k, hk, h3 with
       | 0, _, h3 => exact op4_any h1.1 h2 (h3 (by omega)) (by omega)
       | 1, _, h3 => exact op3_any h1.1 h2 (h3 (by omega)) h1.2.1 h1.2.2.1 (by omega) (by omega) (by have := nameI_size (max f.last 1); omega)
     case hB =>
       intro k hk D1 h3
       match k, hk, h3 with
       | 0, _, h3 => exact fun _ => bnd_wipe _ (h3 (by omega))
       | 1, _, h3 => exact fun h => by omega
   have hsa : seqAll [fun D => wipeG doP D [cutNm, newNm], endN (nameI (max f.last 1)) f] D = RR := by
     rw [hR]
     show seqG (wipeG doP D [cutNm, newNm]) (fun D => seqG (endN (nameI (max f.last 1)) f D) (fun D => (D, 0))) = _
     congr 1
     funext D1
     rw [seqG_ret, endN_eq hla0]
   rw [hsa] at HCALL
   have HHH := Lib.hid (And.intro (hrow.tight.frame (fun k hk hl => hbt2.block k hl)) (And.intro hre (fun y hy => (Row.tight (hrx y hy)).frame (fun k hk hl => hbt2.block k hl))))
   have HSZ := Lib.hid (And.intro hw12 (And.intro hpf (And.intro hw23 (And.intro hw34 hw4t))))
   have HP1 := Lib.hid hpl
   clear hsa n0 n1 n2 n3 nb hbt2 hbt3 hold hoa hrow hrx hre hfr hfa HB3 HF3 HP3 hb2 hR HRR HFI hblk HBN
   refine HCALL.out.mono ?_
   rintro e w5 ⟨rfl, h1, h2⟩
   have H1 := Lib.hid h1
   have H2 := Lib.hid h2
   clear h1 h2 HCALL
   obtain ⟨RD, rcode⟩ := RR
   simp only at *
   have hsz5 := H2.out.size
   have HD5 : Hid (DRep w5 (.pointer (some ⟨bx, 0, none⟩)) RD (fun k => (S k ∨ wt.heap.size ≤ k) ∧ k < w5.heap.size)) := DRep.tight H1.out
   have HC5 : Hid (Chg S w w5) := (Chg.ofBelow (S := S) HBT.out).trans H2.out (fun k hk => .inl hk)
   by_cases hcode : rcode = 0
   · subst hcode
     have HE5 := Lib.hid (HE.out.step H2.out)
     have HK : Hid (∀ w', Hid (Below w5.heap.size w5 w') → w'.cell? ⟨w.heap.size, 0, none⟩ = some (.pointer (some ⟨bx, 0, none⟩)) ∧ w'.cell? ⟨w2.heap.size, 0, none⟩ = some (.pointer (some ⟨pf, 0, none⟩)) ∧ w'.cell? ⟨pf, 1, none⟩ = some (.int .i64 f.last) ∧ w'.cell? ⟨pf, 2, none⟩ = some (.slice ra X.length rc) ∧ w'.cell? ⟨pf, 3, none⟩ = some (.slice fa f.front.length fc)) := fun w' hb => by
       have h2 := HE5.out.later hb.out
       exact ⟨cellAt h2.bkd.1 0 rfl, cellAt h2.bkf.1 0 rfl, cellAt h2.bko.1 1 rfl, cellAt h2.bko.1 2 rfl, cellAt h2.bko.1 3 rfl⟩
     have HB0 : Hid (Below w5.heap.size w5 w5.drew) := (Below.refl _ _).drew
     have HBl : Hid (Below w5.heap.size w5 (w5.drew.alloc (.cells #[.int .i64 (max f.last 1), .int .i64 f.front.length, .int .i64 0, .pointer (some ⟨bx, 0, none⟩), .int .i64 most] 148))) := HB0.out.alloc (Nat.le_refl _) _
     go_upto_region 11 with fail
     go_region_held3 (fun w' => w'.cell? ⟨w.heap.size, 0, none⟩ = some (.pointer (some ⟨bx, 0, none⟩)) ∧ w'.cell? ⟨w2.heap.size, 0, none⟩ = some (.pointer (some ⟨pf, 0, none⟩)) ∧ w'.cell? ⟨pf, 1, none⟩ = some (.int .i64 f.last) ∧ w'.cell? ⟨pf, 2, none⟩ = some (.slice ra X.length rc) ∧ w'.cell? ⟨pf, 3, none⟩ = some (.slice fa f.front.length fc)) (exact HK.out _ (by assumption))
       (first
       | (go_at_call 62; refine (lnew_any (some ⟨bx, 0, none⟩) most (max f.last 1) f.front.length w5.drew).mono ?_; rintro e w6 ⟨rfl, rfl⟩))
     all_goals
       go_wp2
       (try simp only [Exit.inBlock, Exit.then])
       refine bodyPost_ret (results_tmp3 rfl _ _ _) rfl ?_
       obtain ⟨z1, z2, z3, z4, z5⟩ := HSZ.out
       have hsl := HBl.out.size
       have hfr : ∀ k, w1.heap.size ≤ k → k < w2.heap.size → (w5.drew.alloc (.cells #[.int .i64 (max f.last 1), .int .i64 f.front.length, .int .i64 0, .pointer (some ⟨bx, 0, none⟩), .int .i64 most] 148)).heap[k]? = wt.heap[k]? := fun k h1 h2 =>
         (HBl.out.block k (by omega)).trans (H2.out.block k (by omega) (fun h => by have := HS.out k h; omega))
       have hto : ∀ k, w1.heap.size ≤ k → k < w2.heap.size → w.heap.size ≤ k ∧ ¬ ((S k ∨ wt.heap.size ≤ k) ∧ k < w5.heap.size) ∧ k ≠ w5.heap.size := fun k h1 h2 => ⟨by omega, fun h => by rcases h.1 with h3 | h3; have := HS.out k h3; omega; omega, by omega⟩
       refine ⟨fun k => (S k ∨ wt.heap.size ≤ k) ∧ k < w5.heap.size, ⟨HD5.out.frame (fun k hk hl => HBl.out.block k hl), fun k hk => ⟨by rcases hk.1 with h | h; exact .inl h; exact .inr (by have := HBT.out.size; omega), Nat.lt_of_lt_of_le hk.2 hsl⟩, HC5.out.trans (Chg.ofBelow (S := S) HBl.out) (fun k hk => .inl hk)⟩, .inr ⟨rfl, w5.heap.size, ra, rc, X, rfl, heap_alloc_new w5.drew _, by have := HBT.out.size; omega, fun h => Nat.lt_irrefl _ h.2, ?_, ?_, HHH.out.2.1⟩⟩
       · exact (HHH.out.1.frame (fun k hk _ => hfr k hk.1.1 hk.2)).mono (fun k hk => hto k hk.1.1 hk.2)
       · intro y hy
         exact (Row.frame (HHH.out.2.2 y hy) (fun k hk _ => hfr k hk.1 hk.2)).mono (fun k hk => hto k hk.1 hk.2)
   · have hb1 : (rcode == 0) = false := by simpa using hcode
     have hb2 : (rcode != 0) = true := by simpa using hcode
     have HKK := Lib.hid (cellAt (HE.out.step H2.out).bkd.1 0 rfl)
     clear HE HHH
     go_wp2
     (try simp only [Exit.inBlock, Exit.then])
     refine bodyPost_ret (results_tmp3 rfl _ _ _) rfl ?_
     exact ⟨_, ⟨HD5.out, fun k hk => ⟨by rcases hk.1 with h | h; exact .inl h; exact .inr (by have := HBT.out.size; omega), hk.2⟩, HC5.out⟩, .inl ⟨hcode, rfl⟩⟩
section
variable (x : Value) (D : DS) (S : Nat → Prop) (w : World) (h : DRep w x D S) (ht : Tab w) (hl : D.files.length ≤ 1000) (hs : sumD D.files ≤ 100000) (hnm : ∀ f ∈ D.files, f.name.size ≤ maxLen)
include h ht hl hs hnm
end
theorem findS_new (room : Int) : findS ⟨room, [], 0, false⟩ = FR.bad 0 := by
 unfold findS
 rw [if_neg (by simp)]
 unfold findG
 rw [if_pos (by unfold segsD; rfl)]
theorem openS_new (room : Int) : openS doP ⟨room, [], 0, false⟩ = (⟨room, [⟨nameI 1, [], 0⟩], 0, false⟩, 0) := by
 unfold openS
 rw [findS_new]
 have hw : wipeG doP ⟨room, [], 0, false⟩ [cutNm, newNm] = (⟨room, [], 0, false⟩, 0) := rfl
 unfold openG
 rw [if_neg (by simp [FR.bad]), hw]
 show endG doP (FR.bad 0) ⟨room, [], 0, false⟩ = _
 unfold endG
 rw [if_pos (show (FR.bad 0).last = 0 from rfl)]
 exact createD_new room
end Go.Proofs.YtgdmdbdljmlkkaaGreatDoor
