/- Wal3, SegNumber -/
import Derived.Test.YtgdmdbdljmlkkaaGreatDoorTz16
import Derived.Deep.Cut
set_option maxRecDepth 100000
set_option linter.unusedVariables false
set_option linter.unusedSimpArgs false
namespace Go.Proofs.YtgdmdbdljmlkkaaGreatDoor
open Go.RowKit
theorem cells5w {w : World} {b : Nat} {x0 x1 x2 x3 x4 : Value} {t : TypeId} {fr : Nat × Nat} (h : w.heap[b]? = some (.cells #[x0, x1, x2, x3, x4] t fr)) :
   w.cell? ⟨b, 0, none⟩ = some x0 ∧ w.cell? ⟨b, 1, none⟩ = some x1 ∧ w.cell? ⟨b, 2, none⟩ = some x2 ∧ w.cell? ⟨b, 3, none⟩ = some x3 ∧ w.cell? ⟨b, 4, none⟩ = some x4 :=
 ⟨cellAt h 0 rfl, cellAt h 1 rfl, cellAt h 2 rfl, cellAt h 3 rfl, cellAt h 4 rfl⟩
structure LAt (w : World) (bl : Nat) (d : Value) (L : LS) (S : Nat → Prop) : Prop where
 blk : w.heap[bl]? = some (.cells #[.int .i64 L.n, .int .i64 L.size, .int .i64 L.waiting, d, .int .i64 L.most] 148 (0, 0))
 dsk : DRep w d L.D (fun k => S k ∧ k ≠ bl)
 own : S bl
theorem LAt.frame {w w' : World} {bl : Nat} {d : Value} {L : LS} {S : Nat → Prop} (h : LAt w bl d L S) (hb : ∀ k, S k → k < w.heap.size → w'.heap[k]? = w.heap[k]?) : LAt w' bl d L S :=
 ⟨(hb bl h.own (lt_of_heap h.blk)).trans h.blk, h.dsk.frame (fun k hk => hb k hk.1), h.own⟩
theorem LAt.mono {w : World} {bl : Nat} {d : Value} {L : LS} {S T : Nat → Prop} (h : LAt w bl d L S) (hS : ∀ k, S k → T k) : LAt w bl d L T :=
 ⟨h.blk, h.dsk.mono (fun k hk => ⟨hS k hk.1, hk.2⟩), hS bl h.own⟩
theorem LAt.later {w w' : World} {bl : Nat} {d : Value} {L : LS} {S : Nat → Prop} (h : LAt w bl d L S) (hb : Below w.heap.size w w') : LAt w' bl d L S := h.frame (fun k _ hk => hb.block k hk)
theorem LAt.tight {w : World} {bl : Nat} {d : Value} {L : LS} {S : Nat → Prop} (h : LAt w bl d L S) : LAt w bl d L (fun k => S k ∧ k < w.heap.size) :=
 ⟨h.blk, h.dsk.tight.mono (fun k hk => ⟨⟨hk.1.1, hk.2⟩, hk.1.2⟩), h.own, lt_of_heap h.blk⟩
theorem LAt.disk {w w' : World} {bl : Nat} {d : Value} {L : LS} {S : Nat → Prop} {D' : DS} (h : LAt w bl d L S) (hd : DRep w' d D' (fun k => (S k ∧ k ≠ bl) ∨ w.heap.size ≤ k)) (hc : Chg (fun k => S k ∧ k ≠ bl) w w') :
   LAt w' bl d { L with D := D' } (fun k => S k ∨ w.heap.size ≤ k) := by
 have hlt := lt_of_heap h.blk
 exact ⟨(hc.block bl hlt (fun e => e.2 rfl)).trans h.blk, hd.mono (fun k hk => by rcases hk with hk | hk; exact ⟨.inl hk.1, hk.2⟩; exact ⟨.inr hk, by omega⟩), .inl h.own⟩
theorem LAt.head {w w' : World} {bl : Nat} {d : Value} {L L' : LS} {S : Nat → Prop} (h : LAt w bl d L S) (hD : L'.D = L.D) (hb : w'.heap[bl]? = some (.cells #[.int .i64 L'.n, .int .i64 L'.size, .int .i64 L'.waiting, d, .int .i64 L'.most] 148 (0, 0)))
   (hc : Chg (fun k => k = bl) w w') : LAt w' bl d L' S :=
 ⟨hb, by rw [hD]; exact h.dsk.frame (fun k hk hl => hc.block k hl hk.2), h.own⟩
def LPost (w : World) (bl : Nat) (d : Value) (S : Nat → Prop) (r : LS × Int) : Ending → World → Prop := fun e w' =>
 e = .returned (.int .i64 r.2) ∧ LAt w' bl d r.1 (fun k => S k ∨ w.heap.size ≤ k) ∧ Chg S w w'
theorem segName_any (n : Int) (w : World) (ht : Tab w) :
   Calls Tryz.prog 56 #[.int .i64 n] w fun e w' => e = .returned (.tuple #[.string (nameI n), .bool (decide (1 ≤ n ∧ n ≤ 99999999))]) ∧ Below w.heap.size w w' := by
 by_cases h : 1 ≤ n ∧ n ≤ 99999999
 · obtain ⟨m, rfl⟩ := Int.eq_ofNat_of_zero_le (show 0 ≤ n by omega)
   rw [nameI_yes (by omega) (by omega), decide_eq_true h]
   exact name_yes m w (by omega) (by omega) ht
 · rw [nameI_no (by omega), decide_eq_false h]
   refine (name_no n w (by omega)).mono ?_
   rintro e w' ⟨he, rfl⟩
   exact ⟨he, Below.refl _ _⟩
theorem pname_any (b o : Nat) (n : Int) (w : World) (hc : w.cell? ⟨b, o, none⟩ = some (.int .i64 n)) (ht : Tab w) :
   Calls Tryz.prog 99 #[.pointer (some ⟨b, o, none⟩)] w fun e w' => e = .returned (.string (nameI n)) ∧ Below w.heap.size w w' := by
 have HT := Lib.hid ht
 clear ht
 go_enter Tryz.func99, Tryz.ntmps99
 go_wp2_with fail
 refine (segName_any n w HT.out).mono ?_
 rintro e w1 ⟨rfl, hb⟩
 have HB := Lib.hid hb
 clear hb
 generalize decide (1 ≤ n ∧ n ≤ 99999999) = q
 go_wp2
 go_ret
 exact ⟨rfl, HB.out⟩
theorem rot1_any (b3 : Nat) (n : Int) (w : World) (hc : w.cell? ⟨b3, 0, none⟩ = some (.int .i64 n)) (ht : Tab w) :
   Calls Tryz.prog 142 #[.pointer (some ⟨b3, 0, none⟩)] w fun e w' => e = .returned (.int .i64 (if 1 ≤ n ∧ n ≤ 99999999 then 0 else 2)) ∧ Below w.heap.size w w' := by
 have HN := Lib.hid (pname_any b3 0 n w hc ht)
 clear hc ht
 by_cases h : 1 ≤ n ∧ n ≤ 99999999
 · rw [if_pos h]
   obtain ⟨m, rfl⟩ := Int.eq_ofNat_of_zero_le (show 0 ≤ n by omega)
   have hl : (nameI m).toList ≠ [] := by
     rw [nameI_yes (by omega) (by omega), toList_mk]
     intro e
     have := nameL_length m
     rw [e] at this
     simp at this
   have hl2 : (nameI m).toList.isEmpty = false := by simpa using hl
   have hl3 : ((nameI m).toList == ([] : List UInt8)) = false := by simpa using hl
   go_enter Tryz.func142, Tryz.ntmps142
   go_wp2_with fail
   refine HN.out.mono ?_
   rintro e w1 ⟨rfl, hb⟩
   have HB := Lib.hid hb
   clear hb
   generalize nameI m = s at *
   go_wp2
   go_ret
   exact ⟨rfl, HB.out⟩
 · rw [if_neg h]
   rw [nameI_no (by omega)] at HN
   go_enter Tryz.func142, Tryz.ntmps142
   go_wp2_with fail
   refine HN.out.mono ?_
   rintro e w1 ⟨rfl, hb⟩
   have HB := Lib.hid hb
   clear hb
   go_wp2
   go_ret
   exact ⟨rfl, HB.out⟩
def DIn (w : World) (bl : Nat) (d : Value) (S : Nat → Prop) (r : DS × Int) (e : Ending) (w' : World) : Prop :=
 e = .returned (.int .i64 r.2) ∧ DRep w' d r.1 (fun k => (S k ∧ k ≠ bl) ∨ w.heap.size ≤ k) ∧ Chg (fun k => S k ∧ k ≠ bl) w w'
theorem din_of {w w1 : World} {bl : Nat} {d : Value} {L : LS} {S : Nat → Prop} (h : LAt w bl d L S) (hb : Below w.heap.size w w1) {r : DS × Int} {f : Nat} {args : Array Value}
   (hc : ∀ T : Nat → Prop, DRep w1 d L.D T → Calls Tryz.prog f args w1 (DPost w1 d T r)) : Calls Tryz.prog f args w1 (DIn w bl d S r) := by
 have hd : DRep w1 d L.D (fun k => (S k ∧ k ≠ bl) ∧ k < w.heap.size) := h.dsk.tight.frame (fun k hk _ => hb.block k hk.2)
 refine (hc _ hd).mono ?_
 rintro e w2 ⟨he, hr, hch⟩
 have hs := hb.size
 refine ⟨he, hr.mono (fun k hk => by rcases hk with hk | hk; exact .inl hk.1; exact .inr (by omega)), (Chg.ofBelow hb).trans (hch.mono (T := fun k => S k ∧ k ≠ bl) (fun k hk => hk.1)) (fun k hk => .inl hk)⟩
section
variable (L : LS) (bl b0 : Nat) (d : Value) (S : Nat → Prop) (w : World) (h : LAt w bl d L S) (h0 : w.heap[b0]? = some (.cells #[.pointer (some ⟨bl, 0, none⟩)] 27 (0, 0))) (hn0 : ¬ S b0) (ht : Tab w) (hp : 0 ≤ L.D.plan ∧ L.D.plan ≤ 9223372036854775807)
include h h0 hn0 ht hp
set_option maxHeartbeats 1000000 in
theorem rot2_any : Calls Tryz.prog 143 #[.pointer (some ⟨b0, 0, none⟩)] w (DIn w bl d S (syncD L.D (nameI L.n))) := by
 have HL := Lib.hid h
 have HT := Lib.hid ht
 have HK : Hid (∀ w', Hid (Below w.heap.size w w') → w'.cell? ⟨b0, 0, none⟩ = some (.pointer (some ⟨bl, 0, none⟩)) ∧ w'.cell? ⟨bl, 3, none⟩ = some d) := fun w' hb =>
   ⟨cellAt ((hb.out.block _ (lt_of_heap h0)).trans h0) 0 rfl, cellAt ((hb.out.block _ (lt_of_heap h.blk)).trans h.blk) 3 rfl⟩
 have HK2 : Hid (∀ w', Hid (Chg (fun k => S k ∧ k ≠ bl) w w') → w'.cell? ⟨b0, 0, none⟩ = some (.pointer (some ⟨bl, 0, none⟩)) ∧ w'.cell? ⟨bl, 3, none⟩ = some d) := fun w' hc =>
   ⟨cellAt (hc.out.heap h0 (fun e => hn0 e.1)) 0 rfl, cellAt (hc.out.heap h.blk (fun e => e.2 rfl)) 3 rfl⟩
 have HN : Hid (∀ w', Hid (Below w.heap.size w w') → Calls Tryz.prog 99 #[.pointer (some ⟨bl, 0, none⟩)] w' fun e w2 => e = .returned (.string (nameI L.n)) ∧ Below w.heap.size w w2) := fun w' hb =>
   (pname_any bl 0 L.n w' (cellAt ((hb.out.block _ (lt_of_heap h.blk)).trans h.blk) 0 rfl) (tab_below ht hb.out)).mono (fun e w2 he => ⟨he.1, hb.out.trans (he.2.mono hb.out.size)⟩)
 have HS : Hid (∀ w', Hid (Below w.heap.size w w') → Calls Tryz.prog 73 #[d, .string (nameI L.n)] w' (DIn w bl d S (syncD L.D (nameI L.n)))) := fun w' hb =>
   din_of h hb.out (fun T hd => sync_any d (nameI L.n) L.D T w' hd hp)
 have HB0 : Hid (Below w.heap.size w w.drew) := (Below.refl _ _).drew
 clear h h0 ht
 generalize nameI L.n = nm at *
 generalize syncD L.D nm = r at *
 go_enter Tryz.func143, Tryz.ntmps143
 go_upto_region 1 with fail
 have k0 := HK.out w (Below.refl _ _)
 go_region_held3 (fun w' => w'.cell? ⟨b0, 0, none⟩ = some (.pointer (some ⟨bl, 0, none⟩)) ∧ w'.cell? ⟨bl, 3, none⟩ = some d) (first | exact HK.out _ (by assumption) | exact HK2.out _ (by assumption))
   (first
   | (go_at_call 99; refine (HN.out _ (by assumption)).mono ?_; rintro e w2 ⟨rfl, hb2⟩
      have HB2 := Lib.hid hb2
      clear hb2)
   | (go_at_call 73; refine (HS.out _ (by assumption)).mono ?_; rintro e w3 ⟨rfl, hd3, hc3⟩
      have HD3 := Lib.hid hd3
      have HC3 := Lib.hid hc3
      clear hd3 hc3))
 all_goals
   go_wp2
   go_ret
   exact ⟨rfl, HD3.out, HC3.out⟩
end
@[go_sem] theorem run_store_func {P : Program} {w : World} {a : Addr} {m : Mode} (fn : Fn) (x y : Array Value) : (store a (.func fn x y) m).run P w = stored P w a (.func fn x y) m := run_store P w a _ m rfl
section
variable (L : LS) (bl b0 b3 : Nat) (d : Value) (S : Nat → Prop) (w : World) (n3 s3 w3 : Int) (h : LAt w bl d L S) (h0 : w.heap[b0]? = some (.cells #[.pointer (some ⟨bl, 0, none⟩)] 27 (0, 0)))
 (h3 : w.heap[b3]? = some (.cells #[.int .i64 n3, .int .i64 s3, .int .i64 w3] 146 (0, 0)))
include h h0 h3
set_option maxHeartbeats 1000000 in
theorem rot3_any (hn0 : ¬ S b0) (ht : Tab w) (hp : 0 ≤ L.D.plan ∧ L.D.plan ≤ 9223372036854775807) : Calls Tryz.prog 144 #[.pointer (some ⟨b0, 0, none⟩), .pointer (some ⟨b3, 0, none⟩)] w (DIn w bl d S (createD L.D (nameI n3))) := by
 have HL := Lib.hid h
 have HT := Lib.hid ht
 have HK : Hid (∀ w', Hid (Below w.heap.size w w') → w'.cell? ⟨b0, 0, none⟩ = some (.pointer (some ⟨bl, 0, none⟩)) ∧ w'.cell? ⟨bl, 3, none⟩ = some d) := fun w' hb =>
   ⟨cellAt ((hb.out.block _ (lt_of_heap h0)).trans h0) 0 rfl, cellAt ((hb.out.block _ (lt_of_heap h.blk)).trans h.blk) 3 rfl⟩
 have HK2 : Hid (∀ w', Hid (Chg (fun k => S k ∧ k ≠ bl) w w') → w'.cell? ⟨b0, 0, none⟩ = some (.pointer (some ⟨bl, 0, none⟩)) ∧ w'.cell? ⟨bl, 3, none⟩ = some d) := fun w' hc =>
   ⟨cellAt (hc.out.heap h0 (fun e => hn0 e.1)) 0 rfl, cellAt (hc.out.heap h.blk (fun e => e.2 rfl)) 3 rfl⟩
 have HN : Hid (∀ w', Hid (Below w.heap.size w w') → Calls Tryz.prog 99 #[.pointer (some ⟨b3, 0, none⟩)] w' fun e w2 => e = .returned (.string (nameI n3)) ∧ Below w.heap.size w w2) := fun w' hb =>
   (pname_any b3 0 n3 w' (cellAt ((hb.out.block _ (lt_of_heap h3)).trans h3) 0 rfl) (tab_below ht hb.out)).mono (fun e w2 he => ⟨he.1, hb.out.trans (he.2.mono hb.out.size)⟩)
 have HS : Hid (∀ w', Hid (Below w.heap.size w w') → Calls Tryz.prog 34 #[d, .string (nameI n3)] w' (DIn w bl d S (createD L.D (nameI n3)))) := fun w' hb =>
   din_of h hb.out (fun T hd => create_any d (nameI n3) L.D T w' hd hp)
 have HB0 : Hid (Below w.heap.size w w.drew) := (Below.refl _ _).drew
 clear h h0 ht h3
 generalize nameI n3 = nm at *
 generalize createD L.D nm = r at *
 go_enter Tryz.func144, Tryz.ntmps144
 go_upto_region 1 with fail
 have k0 := HK.out w (Below.refl _ _)
 go_region_held3 (fun w' => w'.cell? ⟨b0, 0, none⟩ = some (.pointer (some ⟨bl, 0, none⟩)) ∧ w'.cell? ⟨bl, 3, none⟩ = some d) (first | exact HK.out _ (by assumption) | exact HK2.out _ (by assumption))
   (first
   | (go_at_call 99; refine (HN.out _ (by assumption)).mono ?_; rintro e w2 ⟨rfl, hb2⟩
      have HB2 := Lib.hid hb2
      clear hb2)
   | (go_at_call 34; refine (HS.out _ (by assumption)).mono ?_; rintro e w3 ⟨rfl, hd3, hc3⟩
      have HD3 := Lib.hid hd3
      have HC3 := Lib.hid hc3
      clear hd3 hc3))
 all_goals
   go_wp2
   go_ret
   exact ⟨rfl, HD3.out, HC3.out⟩
set_option maxHeartbeats 1000000 in
theorem rot4_any : Calls Tryz.prog 145 #[.pointer (some ⟨b3, 0, none⟩), .pointer (some ⟨b0, 0, none⟩)] w fun e w' => e = .returned (.int .i64 0) ∧
   w'.heap[bl]? = some (.cells #[.int .i64 n3, .int .i64 s3, .int .i64 w3, d, .int .i64 L.most] 148 (0, 0)) ∧ Chg (fun k => k = bl) w w' := by
 have HBL := Lib.hid h.blk
 have hx0 := cellAt h0 0 rfl
 obtain ⟨q0, q1, q2⟩ : w.cell? ⟨b3, 0, none⟩ = some (.int .i64 n3) ∧ w.cell? ⟨b3, 1, none⟩ = some (.int .i64 s3) ∧ w.cell? ⟨b3, 2, none⟩ = some (.int .i64 w3) := ⟨cellAt h3 0 rfl, cellAt h3 1 rfl, cellAt h3 2 rfl⟩
 obtain ⟨l0, l1, l2, l3, l4⟩ := cells5w h.blk
 have f0 := freeAt h.blk 0
 have f1 := freeAt h.blk 1
 have f2 := freeAt h.blk 2
 clear h h0 h3
 go_enter Tryz.func145, Tryz.ntmps145
 go_wp2
 go_ret
 exact ⟨rfl, heap_store (heap_store (heap_store HBL.out 0 (.int .i64 n3)) 1 (.int .i64 s3)) 2 (.int .i64 w3), (((Chg.refl (fun k => k = bl) _).setCell (p := ⟨bl, 0, none⟩) (.inl rfl) _).setCell (p := ⟨bl, 1, none⟩) (.inl rfl) _).setCell (p := ⟨bl, 2, none⟩) (.inl rfl) _⟩
end
set_option maxHeartbeats 1000000 in
theorem try_any (fs : List (Nat × Array Value)) (b : Nat) (w : World) (hl : fs.length ≤ 1000) (eg : ∀ f ∈ fs, ∀ args w, (callFunc f.1 args).run Tryz.prog w = .ok (.enter f.1 args) w) (J : Nat → World → Prop) (Q : Int → World → Prop)
   (hJ : ∀ k w1 w2, k < fs.length → J k w1 → Below w1.heap.size w1 w2 → J k w2) (hR : ∀ k w1, k < fs.length → J k w1 → ∀ j (hj : j < fs.length), w1.cell? ⟨b, j, none⟩ = some (.func (.func fs[j].1) #[] fs[j].2))
   (hS : ∀ k (hk : k < fs.length) w1, J k w1 → Calls Tryz.prog fs[k].1 fs[k].2 w1 fun e w2 => ∃ code : Int, e = .returned (.int .i64 code) ∧ (code = 0 → J (k + 1) w2) ∧ (code ≠ 0 → Q code w2))
   (hE : ∀ w1, J fs.length w1 → Q 0 w1) (h0 : J 0 w) :
   Calls Tryz.prog 141 #[.slice (some ⟨b, 0, none⟩) fs.length fs.length] w fun e w' => ∃ code : Int, e = .returned (.int .i64 code) ∧ Q code w' := by
 have HJ := Lib.hid hJ
 have HR := Lib.hid hR
 have HS := Lib.hid hS
 have HE := Lib.hid hE
 have H0 := Lib.hid h0
 have HEG := Lib.hid eg
 clear hJ hR hS hE h0 eg
 go_enter Tryz.func141, Tryz.ntmps141
 go_wp2_with fail
 go_loopw [8] (fun i w' => ∃ k : Nat, k ≤ fs.length ∧ i = .int .i64 k ∧ Hid (J k w')) (fun i _ => fs.length - (RowKit.intOf i).toNat)
 case atStart => exact ⟨0, by omega, rfl, H0⟩
 case round =>
   obtain ⟨k, hk, rfl, HK⟩ := hrel
   by_cases hlt : k < fs.length
   · have hc := HR.out k wr hlt HK.out k hlt
     have heg := HEG.out fs[k] (List.getElem_mem hlt)
     have HS1 := Lib.hid (HS.out k hlt)
     have HA : Hid (J k (wr.alloc (.cells #[.func (.func fs[k].1) #[] fs[k].2] 191))) := HJ.out k wr _ hlt HK.out ((Below.refl _ _).alloc (Nat.le_refl _) _)
     generalize fs[k] = f at *
     obtain ⟨g, lb⟩ := f
     simp only at *
     go_wp2_with fail
     refine (HS1.out _ HA.out).mono ?_
     rintro e w2 ⟨code, rfl, hz, hnz⟩
     have HZ := Lib.hid hz
     have HNZ := Lib.hid hnz
     clear hz hnz hc HK HA HS1 heg
     by_cases hcode : code = 0
     · subst hcode
       have HJ2 := Lib.hid (HZ.out rfl)
       go_wp2
       go_roundw
       case rel => exact ⟨k + 1, by omega, by go_num, HJ2⟩
       case measure => simp [RowKit.intOf]; omega
     · have HQ := Lib.hid (HNZ.out hcode)
       have hb : (code == 0) = false := by simpa using hcode
       have hb2 : (code != 0) = true := by simpa using hcode
       go_wp2
       go_ret
       exact ⟨code, rfl, HQ.out⟩
   · obtain rfl : k = fs.length := by omega
     have HQ := Lib.hid (HE.out wr HK.out)
     go_wp2
     go_ret
     exact ⟨0, rfl, HQ.out⟩
structure RotS (w w1 : World) (bl b : Nat) (d : Value) (S : Nat → Prop) (L : LS) (n3 : Int) (fs : Array Value) : Prop where
 log : LAt w1 bl d L (fun k => (S k ∨ w.heap.size ≤ k) ∧ k ≠ b ∧ k ≠ b + 1 ∧ k ≠ b + 1 + 1)
 box : w1.heap[b]? = some (.cells #[.pointer (some ⟨bl, 0, none⟩)] 27 (0, 0))
 plc : w1.heap[b + 1]? = some (.cells #[.int .i64 n3, .int .i64 0, .int .i64 0] 146 (0, 0))
 stp : w1.heap[b + 1 + 1]? = some (.cells fs 191 (0, 0))
 tab : Tab w1
 chg : Chg S w w1
section
variable {w w1 w2 : World} {bl b : Nat} {d : Value} {S : Nat → Prop} {L : LS} {n3 : Int} {fs : Array Value}
theorem RotS.later (h : RotS w w1 bl b d S L n3 fs) (hb : Below w1.heap.size w1 w2) : RotS w w2 bl b d S L n3 fs where
 log := h.log.later hb
 box := (hb.block _ (lt_of_heap h.box)).trans h.box
 plc := (hb.block _ (lt_of_heap h.plc)).trans h.plc
 stp := (hb.block _ (lt_of_heap h.stp)).trans h.stp
 tab := tab_below h.tab hb
 chg := h.chg.trans (Chg.ofBelow (S := S) hb) (fun k hk => .inl hk)
theorem RotS.disk (h : RotS w w1 bl b d S L n3 fs) {D' : DS} (hd : DRep w2 d D' (fun k => (((S k ∨ w.heap.size ≤ k) ∧ k ≠ b ∧ k ≠ b + 1 ∧ k ≠ b + 1 + 1) ∧ k ≠ bl) ∨ w1.heap.size ≤ k))
   (hc : Chg (fun k => ((S k ∨ w.heap.size ≤ k) ∧ k ≠ b ∧ k ≠ b + 1 ∧ k ≠ b + 1 + 1) ∧ k ≠ bl) w1 w2) (ht : Tab w2) : RotS w w2 bl b d S { L with D := D' } n3 fs where
 log := by
   have h0 := lt_of_heap h.box
   have h1 := lt_of_heap h.plc
   have h2 := lt_of_heap h.stp
   have h3 := h.chg.size
   exact (h.log.disk hd hc).mono (fun k hk => by rcases hk with hk | hk; exact hk; exact ⟨.inr (by omega), by omega, by omega, by omega⟩)
 box := hc.heap h.box (fun e => e.1.2.1 rfl)
 plc := hc.heap h.plc (fun e => e.1.2.2.1 rfl)
 stp := hc.heap h.stp (fun e => e.1.2.2.2 rfl)
 tab := ht
 chg := h.chg.trans hc (fun k hk => hk.1.1)
end
set_option maxHeartbeats 2000000 in
theorem rotate_any (L : LS) (bl : Nat) (d : Value) (S : Nat → Prop) (w : World) (h : LAt w bl d L S) (hS : ∀ k, S k → k < w.heap.size) (hT : ∀ w', Chg S w w' → Tab w') {s n : Nat} (hb : Bnd L.D s n) (hn : 1 ≤ L.n ∧ L.n ≤ 1000000000) :
   Calls Tryz.prog 98 #[.pointer (some ⟨bl, 0, none⟩)] w (LPost w bl d S (rotG opsD L)) := by
 have HL := Lib.hid h
 have HTB := Lib.hid hT
 have HBN := Lib.hid hb
 have HSL := Lib.hid hS
 have hbl := lt_of_heap h.blk
 have c0 := (cells5w h.blk).1
 clear h hT hb hS
 have hmf : ∀ fn first cap w, (Instr.makeFunc fn first cap).run Tryz.prog w = .ok (.func fn first cap) w := fun _ _ _ _ => rfl
 go_enter Tryz.func98, Tryz.ntmps98
 go_upto_region 2 with fail
 have HS3 : Hid (RotS w (((w.alloc (.cells #[.pointer (some ⟨bl, 0, none⟩)] 27)).alloc (.cells #[.int .i64 (L.n + 1), .int .i64 0, .int .i64 0] 146)).alloc (.cells #[.func (.func 142) #[] #[.pointer (some ⟨w.heap.size + 1, 0, none⟩)], .func (.func 143) #[] #[.pointer (some ⟨w.heap.size, 0, none⟩)], .func (.func 144) #[] #[.pointer (some ⟨w.heap.size, 0, none⟩), .pointer (some ⟨w.heap.size + 1, 0, none⟩)], .func (.func 145) #[] #[.pointer (some ⟨w.heap.size + 1, 0, none⟩), .pointer (some ⟨w.heap.size, 0, none⟩)]] 191)) bl w.heap.size d S L (L.n + 1)
     #[.func (.func 142) #[] #[.pointer (some ⟨w.heap.size + 1, 0, none⟩)], .func (.func 143) #[] #[.pointer (some ⟨w.heap.size, 0, none⟩)], .func (.func 144) #[] #[.pointer (some ⟨w.heap.size, 0, none⟩), .pointer (some ⟨w.heap.size + 1, 0, none⟩)], .func (.func 145) #[] #[.pointer (some ⟨w.heap.size + 1, 0, none⟩), .pointer (some ⟨w.heap.size, 0, none⟩)]]) := by
   have h3 := heap3 w (.cells #[.pointer (some ⟨bl, 0, none⟩)] 27) (.cells #[.int .i64 (L.n + 1), .int .i64 0, .int .i64 0] 146) (.cells #[.func (.func 142) #[] #[.pointer (some ⟨w.heap.size + 1, 0, none⟩)], .func (.func 143) #[] #[.pointer (some ⟨w.heap.size, 0, none⟩)], .func (.func 144) #[] #[.pointer (some ⟨w.heap.size, 0, none⟩), .pointer (some ⟨w.heap.size + 1, 0, none⟩)], .func (.func 145) #[] #[.pointer (some ⟨w.heap.size + 1, 0, none⟩), .pointer (some ⟨w.heap.size, 0, none⟩)]] 191)
   have hb3 := (below3 w (.cells #[.pointer (some ⟨bl, 0, none⟩)] 27) (.cells #[.int .i64 (L.n + 1), .int .i64 0, .int .i64 0] 146) (.cells #[.func (.func 142) #[] #[.pointer (some ⟨w.heap.size + 1, 0, none⟩)], .func (.func 143) #[] #[.pointer (some ⟨w.heap.size, 0, none⟩)], .func (.func 144) #[] #[.pointer (some ⟨w.heap.size, 0, none⟩), .pointer (some ⟨w.heap.size + 1, 0, none⟩)], .func (.func 145) #[] #[.pointer (some ⟨w.heap.size + 1, 0, none⟩), .pointer (some ⟨w.heap.size, 0, none⟩)]] 191)).1
   refine ⟨(HL.out.later hb3).mono (fun k hk => ?_), h3.1.trans (heap_alloc_new _ _), h3.2.1.trans (heap_alloc_new _ _), h3.2.2.trans (heap_alloc_new _ _), HTB.out _ (Chg.ofBelow hb3), Chg.ofBelow hb3⟩
   have := HSL.out k hk
   exact ⟨.inl hk, by omega, by omega, by omega⟩
 go_wp2_with fail
 generalize (((w.alloc (.cells #[.pointer (some ⟨bl, 0, none⟩)] 27)).alloc (.cells #[.int .i64 (L.n + 1), .int .i64 0, .int .i64 0] 146)).alloc (.cells #[.func (.func 142) #[] #[.pointer (some ⟨w.heap.size + 1, 0, none⟩)], .func (.func 143) #[] #[.pointer (some ⟨w.heap.size, 0, none⟩)], .func (.func 144) #[] #[.pointer (some ⟨w.heap.size, 0, none⟩), .pointer (some ⟨w.heap.size + 1, 0, none⟩)], .func (.func 145) #[] #[.pointer (some ⟨w.heap.size + 1, 0, none⟩), .pointer (some ⟨w.heap.size, 0, none⟩)]] 191)) = wt at *
 obtain ⟨FS, hFS⟩ : ∃ FS : Array Value, FS = #[.func (.func 142) #[] #[.pointer (some ⟨w.heap.size + 1, 0, none⟩)], .func (.func 143) #[] #[.pointer (some ⟨w.heap.size, 0, none⟩)], .func (.func 144) #[] #[.pointer (some ⟨w.heap.size, 0, none⟩), .pointer (some ⟨w.heap.size + 1, 0, none⟩)], .func (.func 145) #[] #[.pointer (some ⟨w.heap.size + 1, 0, none⟩), .pointer (some ⟨w.heap.size, 0, none⟩)]] := ⟨_, rfl⟩
 rw [← hFS] at HS3
 have HCALL : Hid (Calls Tryz.prog 141 #[.slice (some ⟨w.heap.size + 1 + 1, 0, none⟩) 4 4] wt fun e w' => ∃ code : Int, e = .returned (.int .i64 code) ∧ (LAt w' bl d (rotG opsD L).1 (fun k => S k ∨ w.heap.size ≤ k) ∧ Chg S w w' ∧ code = (rotG opsD L).2)) := by
   have b1 := bnd_sync HBN.out (nameI L.n)
   refine try_any [(142, #[.pointer (some ⟨w.heap.size + 1, 0, none⟩)]), (143, #[.pointer (some ⟨w.heap.size, 0, none⟩)]), (144, #[.pointer (some ⟨w.heap.size, 0, none⟩), .pointer (some ⟨w.heap.size + 1, 0, none⟩)]), (145, #[.pointer (some ⟨w.heap.size + 1, 0, none⟩), .pointer (some ⟨w.heap.size, 0, none⟩)])]
     (w.heap.size + 1 + 1) wt (by simp) ?eg
     (fun k w1 => match k with
       | 0 => RotS w w1 bl w.heap.size d S L (L.n + 1) FS
       | 1 => RotS w w1 bl w.heap.size d S L (L.n + 1) FS ∧ L.n + 1 ≤ 99999999
       | 2 => RotS w w1 bl w.heap.size d S { L with D := (syncD L.D (nameI L.n)).1 } (L.n + 1) FS ∧ L.n + 1 ≤ 99999999 ∧ (syncD L.D (nameI L.n)).2 = 0
       | 3 => RotS w w1 bl w.heap.size d S { L with D := (createD (syncD L.D (nameI L.n)).1 (nameI (L.n + 1))).1 } (L.n + 1) FS ∧ L.n + 1 ≤ 99999999 ∧ (syncD L.D (nameI L.n)).2 = 0 ∧ (createD (syncD L.D (nameI L.n)).1 (nameI (L.n + 1))).2 = 0
       | _ => LAt w1 bl d (rotG opsD L).1 (fun k => S k ∨ w.heap.size ≤ k) ∧ Chg S w w1 ∧ 0 = (rotG opsD L).2)
     _ ?hJ ?hR ?hS ?hE HS3.out
   case eg =>
     intro f hf
     simp only [List.mem_cons, List.not_mem_nil, or_false] at hf
     rcases hf with rfl | rfl | rfl | rfl
     · exact enters_of Tryz.func142 (by kernel_rfl) rfl
     · exact enters_of Tryz.func143 (by kernel_rfl) rfl
     · exact enters_of Tryz.func144 (by kernel_rfl) rfl
     · exact enters_of Tryz.func145 (by kernel_rfl) rfl
   case hJ =>
     intro k w1 w2 hk hj hb
     match k, hk, hj with
     | 0, _, hj => exact RotS.later hj hb
     | 1, _, hj => exact ⟨hj.1.later hb, hj.2⟩
     | 2, _, hj => exact ⟨hj.1.later hb, hj.2⟩
     | 3, _, hj => exact ⟨hj.1.later hb, hj.2⟩
   case hR =>
     intro k w1 hk hj j hlt
     have hst : w1.heap[w.heap.size + 1 + 1]? = some (.cells FS 191 (0, 0)) := by
       match k, hk, hj with
       | 0, _, hj => exact RotS.stp hj
       | 1, _, hj => exact hj.1.stp
       | 2, _, hj => exact hj.1.stp
       | 3, _, hj => exact hj.1.stp
     refine cellAt hst j ?_
     rw [hFS]
     match j, hlt with
     | 0, _ => rfl
     | 1, _ => rfl
     | 2, _ => rfl
     | 3, _ => rfl
   case hE => intro w1 hj; exact hj
   case hS =>
     intro k hk w1 hj
     match k, hk, hj with
     | 0, _, hj =>
       have hj0 : RotS w w1 bl w.heap.size d S L (L.n + 1) FS := hj
       refine (rot1_any (w.heap.size + 1) (L.n + 1) w1 (cellAt hj0.plc 0 rfl) hj0.tab).mono ?_
       rintro e w2 ⟨rfl, hb⟩
       refine ⟨_, rfl, fun h0 => ?_, fun h0 => ?_⟩
       · by_cases hc : 1 ≤ L.n + 1 ∧ L.n + 1 ≤ 99999999
         · exact ⟨hj0.later hb, hc.2⟩
         · rw [if_neg hc] at h0; cases h0
       · have hc : ¬ (1 ≤ L.n + 1 ∧ L.n + 1 ≤ 99999999) := fun hc => h0 (if_pos hc)
         have hr : rotG opsD L = (L, 2) := by unfold rotG; rw [if_pos (by omega)]
         have hj2 := hj0.later hb
         rw [hr, if_neg hc]
         exact ⟨hj2.log.mono (fun k hk => hk.1), hj2.chg, rfl⟩
     | 1, _, hj =>
       obtain ⟨hj0, hc⟩ := hj
       refine (rot2_any L bl w.heap.size d _ w1 hj0.log hj0.box (fun e => e.2.1 rfl) hj0.tab HBN.out.plan).mono ?_
       rintro e w2 ⟨rfl, hd, hch⟩
       have hj2 := hj0.disk hd hch (HTB.out _ (hj0.chg.trans hch (fun k hk => hk.1.1)))
       refine ⟨_, rfl, fun h0 => ⟨hj2, hc, h0⟩, fun h0 => ?_⟩
       have hr : rotG opsD L = ({ L with D := (syncD L.D (nameI L.n)).1 }, (syncD L.D (nameI L.n)).2) := by unfold rotG; rw [if_neg (by omega)]; exact if_pos h0
       rw [hr]
       exact ⟨hj2.log.mono (fun k hk => hk.1), hj2.chg, rfl⟩
     | 2, _, hj =>
       obtain ⟨hj0, hc, hs⟩ := hj
       refine (rot3_any { L with D := (syncD L.D (nameI L.n)).1 } bl w.heap.size (w.heap.size + 1) d _ w1 (L.n + 1) 0 0 hj0.log hj0.box hj0.plc (fun e => e.2.1 rfl) hj0.tab b1.plan).mono ?_
       rintro e w2 ⟨rfl, hd, hch⟩
       have hj2 := hj0.disk hd hch (HTB.out _ (hj0.chg.trans hch (fun k hk => hk.1.1)))
       refine ⟨_, rfl, fun h0 => ⟨hj2, hc, hs, h0⟩, fun h0 => ?_⟩
       have hr : rotG opsD L = ({ L with D := (createD (syncD L.D (nameI L.n)).1 (nameI (L.n + 1))).1 }, (createD (syncD L.D (nameI L.n)).1 (nameI (L.n + 1))).2) := by unfold rotG; rw [if_neg (by omega), if_neg (fun e => e hs)]; exact if_pos h0
       rw [hr]
       exact ⟨hj2.log.mono (fun k hk => hk.1), hj2.chg, rfl⟩
     | 3, _, hj =>
       obtain ⟨hj0, hc, hs, hcr⟩ := hj
       refine (rot4_any { L with D := (createD (syncD L.D (nameI L.n)).1 (nameI (L.n + 1))).1 } bl w.heap.size (w.heap.size + 1) d _ w1 (L.n + 1) 0 0 hj0.log hj0.box hj0.plc).mono ?_
       rintro e w2 ⟨rfl, hblk, hch⟩
       have hr : rotG opsD L = (⟨L.n + 1, 0, 0, L.most, (createD (syncD L.D (nameI L.n)).1 (nameI (L.n + 1))).1⟩, 0) := by unfold rotG; rw [if_neg (by omega), if_neg (fun e => e hs)]; exact if_neg (fun e => e hcr)
       refine ⟨0, rfl, fun _ => ?_, fun h0 => absurd rfl h0⟩
       show LAt w2 bl d (rotG opsD L).1 (fun k => S k ∨ w.heap.size ≤ k) ∧ Chg S w w2 ∧ 0 = (rotG opsD L).2
       rw [hr]
       exact ⟨(hj0.log.head (L' := ⟨L.n + 1, 0, 0, L.most, (createD (syncD L.D (nameI L.n)).1 (nameI (L.n + 1))).1⟩) rfl hblk hch).mono (fun k hk => hk.1), hj0.chg.trans hch (fun k hk => by have e : k = bl := hk; rw [e]; exact .inl HL.out.own), rfl⟩
 clear HS3 hFS HL HTB HBN HSL hmf c0
 refine HCALL.out.mono ?_
 rintro e w2 ⟨code, rfl, hq1, hq2, rfl⟩
 have HQ1 := Lib.hid hq1
 have HQ2 := Lib.hid hq2
 clear hq1 hq2 HCALL
 go_wp2
 go_ret
 exact ⟨rfl, HQ1.out, HQ2.out⟩
set_option maxHeartbeats 1000000 in
theorem lsync_any (L : LS) (bl : Nat) (d : Value) (S : Nat → Prop) (w : World) (h : LAt w bl d L S) (ht : Tab w) (hp : 0 ≤ L.D.plan ∧ L.D.plan ≤ 9223372036854775807) :
   Calls Tryz.prog 42 #[.pointer (some ⟨bl, 0, none⟩)] w (LPost w bl d S (synG opsD L)) := by
 have HL := Lib.hid h
 have HT := Lib.hid ht
 have HOWN := Lib.hid h.own
 have HK : Hid (∀ w', Hid (Below w.heap.size w w') → w'.cell? ⟨bl, 3, none⟩ = some d) := fun w' hb => cellAt ((hb.out.block _ (lt_of_heap h.blk)).trans h.blk) 3 rfl
 have HK2 : Hid (∀ w', Hid (Chg (fun k => S k ∧ k ≠ bl) w w') → w'.cell? ⟨bl, 3, none⟩ = some d) := fun w' hc => cellAt (hc.out.heap h.blk (fun e => e.2 rfl)) 3 rfl
 have HN : Hid (∀ w', Hid (Below w.heap.size w w') → Calls Tryz.prog 99 #[.pointer (some ⟨bl, 0, none⟩)] w' fun e w2 => e = .returned (.string (nameI L.n)) ∧ Below w.heap.size w w2) := fun w' hb =>
   (pname_any bl 0 L.n w' (cellAt ((hb.out.block _ (lt_of_heap h.blk)).trans h.blk) 0 rfl) (tab_below ht hb.out)).mono (fun e w2 he => ⟨he.1, hb.out.trans (he.2.mono hb.out.size)⟩)
 have HS : Hid (∀ w', Hid (Below w.heap.size w w') → Calls Tryz.prog 73 #[d, .string (nameI L.n)] w' (DIn w bl d S (syncD L.D (nameI L.n)))) := fun w' hb =>
   din_of h hb.out (fun T hd => sync_any d (nameI L.n) L.D T w' hd hp)
 have HB0 : Hid (Below w.heap.size w w) := Below.refl _ _
 have HB1 : Hid (Below w.heap.size w w.drew) := (Below.refl _ _).drew
 obtain ⟨r, hr⟩ : ∃ r, r = syncD L.D (nameI L.n) := ⟨_, rfl⟩
 have HV : Hid (synG opsD L = (⟨L.n, L.size, if r.2 = 0 then 0 else L.waiting, L.most, r.1⟩, r.2)) := by rw [hr]; rfl
 rw [← hr] at HS
 obtain ⟨Q, hQ⟩ : ∃ Q, Q = LPost w bl d S (synG opsD L) := ⟨_, rfl⟩
 have HQD := Lib.hid hQ
 rw [← hQ]
 clear h ht hr hQ
 generalize nameI L.n = nm at *
 go_enter Tryz.func42, Tryz.ntmps42
 go_upto_region 3 with fail
 have k0 := HK.out w HB0
 go_region_held3 (fun w' => w'.cell? ⟨bl, 3, none⟩ = some d) (first | exact HK.out _ (by assumption) | exact HK2.out _ (by assumption))
   (first
   | (go_at_call 99; refine (HN.out _ (by assumption)).mono ?_; rintro e w2 ⟨rfl, hb2⟩
      have HB2 := Lib.hid hb2
      clear hb2)
   | (go_at_call 73; refine (HS.out _ (by assumption)).mono ?_; rintro e w3 ⟨rfl, hd3, hc3⟩
      have HD3 := Lib.hid hd3
      have HC3 := Lib.hid hc3
      clear hd3 hc3))
 have HL3 := Lib.hid (HL.out.disk HD3.out HC3.out)
 have HC4 : Hid (Chg S w w3) := HC3.out.mono (fun k hk => hk.1)
 obtain ⟨rD, rc⟩ := r
 simp only at *
 clear HD3 HC3 HK HK2 HN HS k0 HB0 HB1 HL
 by_cases hz : rc = 0
 · subst hz
   have f2 := freeAt HL3.out.blk 2
   obtain ⟨m0, m1, m2, m3, m4⟩ := cells5w HL3.out.blk
   simp only at m2
   have HQ : Hid (∀ w5, w5.heap[bl]? = some (.cells #[.int .i64 L.n, .int .i64 L.size, .int .i64 0, d, .int .i64 L.most] 148 (0, 0)) → Chg (fun k => k = bl) w3 w5 → Q (.returned (.int .i64 0)) w5) := fun w5 hb5 hc5 => by
     rw [HQD.out, HV.out]
     refine ⟨rfl, ?_, HC4.out.trans hc5 (fun k hk => by have e : k = bl := hk; rw [e]; exact .inl HOWN.out)⟩
     exact HL3.out.head (L' := ⟨L.n, L.size, if (0 : Int) = 0 then 0 else L.waiting, L.most, rD⟩) rfl hb5 hc5
   have HB5 := Lib.hid (heap_store HL3.out.blk 2 (.int .i64 0))
   have HC5 : Hid (Chg (fun k => k = bl) w3 (w3.setCell ⟨bl, 2, none⟩ (.int .i64 0))) := (Chg.refl (fun k => k = bl) _).setCell (p := ⟨bl, 2, none⟩) (.inl rfl) _
   clear HL3
   go_wp2
   exact HQ.out _ HB5.out HC5.out
 · have HQ : Hid (Q (.returned (.int .i64 rc)) w3) := by
     rw [HQD.out, HV.out]
     exact ⟨rfl, by rw [if_neg hz]; exact HL3.out, HC4.out⟩
   have hz1 : (rc == 0) = false := by simpa using hz
   clear HL3
   go_wp2
   exact HQ.out
theorem lsegment_any (L : LS) (bl : Nat) (d : Value) (S : Nat → Prop) (w : World) (h : LAt w bl d L S) :
   Calls Tryz.prog 35 #[.pointer (some ⟨bl, 0, none⟩)] w fun e w' => e = .returned (.int .i64 L.n) ∧ w' = w := by
 obtain ⟨c0, c1, c2, c3, c4⟩ := cells5w h.blk
 clear h
 go_enter Tryz.func35, Tryz.ntmps35
 go_wp2
 go_ret
 exact ⟨rfl, rfl⟩
theorem lsize_any (L : LS) (bl : Nat) (d : Value) (S : Nat → Prop) (w : World) (h : LAt w bl d L S) :
   Calls Tryz.prog 36 #[.pointer (some ⟨bl, 0, none⟩)] w fun e w' => e = .returned (.int .i64 L.size) ∧ w' = w := by
 obtain ⟨c0, c1, c2, c3, c4⟩ := cells5w h.blk
 clear h
 go_enter Tryz.func36, Tryz.ntmps36
 go_wp2
 go_ret
 exact ⟨rfl, rfl⟩
theorem lnew_any (p : Option Addr) (most n size : Int) (w : World) : Calls Tryz.prog 62 #[.pointer p, .int .i64 most, .int .i64 n, .int .i64 size] w fun e w' => e = .returned (.pointer (some ⟨w.heap.size, 0, none⟩)) ∧
   w' = w.alloc (.cells #[.int .i64 n, .int .i64 size, .int .i64 0, .pointer p, .int .i64 most] 148) := by
 go_enter Tryz.func62, Tryz.ntmps62
 go_wp2
 go_ret
 exact ⟨rfl, rfl⟩
end Go.Proofs.YtgdmdbdljmlkkaaGreatDoor
namespace Go.Proofs.YtgdmdbdljmlkkaaGreatDoor
open Go.RowKit Go.Lib
def numOut (l : List UInt8) : Value := .tuple #[.int .i64 (numV l), .bool (decide (0 < numV l))]
theorem bad_out (l : List UInt8) (h : goodB l = false) : numOut l = .tuple #[.int .i64 0, .bool false] := by
 simp [numOut, numV, h]
theorem trim_good (l : List UInt8) : goodB l = (hasPrefix l pre4 && (trimPrefix l pre4).length == 8 && (trimPrefix l pre4).all isD) := by
 unfold trimPrefix
 cases hp : hasPrefix l pre4 with
 | false =>
   cases hg : goodB l with
   | false => rfl
   | true =>
     exfalso
     obtain ⟨_, h2, _⟩ := (goodB_iff l).1 hg
     unfold hasPrefix at hp
     have : pre4.isPrefixOf l = true := by
       rw [List.isPrefixOf_iff_prefix, List.prefix_iff_eq_take]
       exact h2.symm
     rw [this] at hp; cases hp
 | true =>
   have hpre : l.take 4 = pre4 := by
     unfold hasPrefix at hp
     rw [List.isPrefixOf_iff_prefix, List.prefix_iff_eq_take] at hp
     exact hp.symm
   have hlen : 4 ≤ l.length := by
     have := congrArg List.length hpre
     simp [pre4] at this
     omega
   simp only [goodB, hpre, BEq.rfl, Bool.and_true, Bool.true_and, if_true]
   have : (l.length == 12) = ((l.drop pre4.length).length == 8) := by
     rw [Bool.eq_iff_iff]; simp [pre4]; omega
   rw [this]; rfl
theorem numV_good (l : List UInt8) (h : goodB l = true) : numV l = val (trimPrefix l pre4) := by
 have h' := h
 rw [trim_good] at h'
 simp only [Bool.and_eq_true] at h'
 unfold numV trimPrefix
 rw [if_pos h, if_pos h'.1.1]; rfl
theorem good_out (l : List UInt8) (h : goodB l = true) : numOut l = .tuple #[.int .i64 (val (trimPrefix l pre4)), .bool (decide (0 < val (trimPrefix l pre4)))] := by
 unfold numOut; rw [numV_good l h]
theorem all_false {d : List UInt8} {k : Nat} {c : UInt8} (h : d.take (k + 1) = d.take k ++ [c]) (hc : isD c = false) : d.all isD = false := by
 cases hd : d.all isD with
 | false => rfl
 | true =>
   have hm : c ∈ d := List.mem_of_mem_take (i := k + 1) (by rw [h]; simp)
   rw [List.all_eq_true.1 hd c hm] at hc
   cases hc
set_option maxHeartbeats 1000000 in
theorem number_any (s : ByteArray) (w : World) :
   Calls Tryz.prog 113 #[.string s] w fun e w' => e = .returned (numOut s.data.toList) ∧ Below w.heap.size w w' := by
 have hc := Tryz.strings_CutPrefix s ⟨#[108, 111, 103, 45]⟩ w
 have HG := Lib.hid (trim_good s.data.toList)
 have HV := Lib.hid (good_out s.data.toList)
 have HB := Lib.hid (bad_out s.data.toList)
 generalize numOut s.data.toList = out at *
 have e4 : (⟨#[108, 111, 103, 45]⟩ : ByteArray).data.toList = pre4 := rfl
 rw [e4] at hc
 clear e4
 generalize goodB s.data.toList = good at *
 generalize hasPrefix s.data.toList pre4 = hp at *
 generalize trimPrefix s.data.toList pre4 = d at *
 have HC := Lib.hid hc
 clear hc
 obtain ⟨D, hD⟩ : ∃ D : ByteArray, D = ⟨d.toArray⟩ := ⟨_, rfl⟩
 have hsz : Hid (D.size = d.length) := by rw [Hid, hD]; rfl
 rw [← hD] at HC
 have HD := Lib.hid hD
 clear hD
 cases hp with
 | false =>
   have hgood := HG.out
   simp only [Bool.false_and] at hgood
   have H := Lib.hid (HB.out hgood)
   clear hgood
   go_enter Tryz.func113, Tryz.ntmps113
   go_wp2_with fail
   refine HC.out.mono ?_
   rintro e w1 ⟨rfl, rfl⟩
   go_wp2
   go_ret2
   exact ⟨congrArg Ending.returned H.out.symm, Below.refl _ _⟩
 | true =>
   by_cases h8 : D.size = 8
   · rw [Hid] at hsz
     have hd8 : d.length = 8 := by rw [← hsz]; exact h8
     have hgood := HG.out
     rw [hd8] at hgood
     simp only [BEq.rfl, Bool.true_and, Bool.and_true] at hgood
     have h8' : ((D.size : Int) != 8) = false := by rw [bne_eq_false_iff_eq]; omega
     have HG2 := Lib.hid hgood
     have H8 := Lib.hid h8
     have HD8 := Lib.hid hd8
     have hle : D.size ≤ 8 := by omega
     have hge : 8 ≤ D.size := by omega
     clear hgood h8 hsz hd8 HG
     go_enter Tryz.func113, Tryz.ntmps113
     go_wp2_with fail
     refine HC.out.mono ?_
     rintro e w1 ⟨rfl, rfl⟩
     go_wp2
     go_loopw [6] (fun n w' => ∃ k v : Nat, k ≤ 8 ∧ w' = w1.iter D k ∧ v < 10 ^ 8 ∧ n = .int .i64 (v : Int) ∧ Hid (v = val (d.take k) ∧ (d.take k).all isD = true)) (fun _ w' => 8 - w'.iterPos w1.heap.size)
     case atStart => exact ⟨0, 0, by omega, rfl, by omega, rfl, rfl, rfl⟩
     case round =>
       obtain ⟨k, v, hk, rfl, hv, rfl, Hv⟩ := hrel
       by_cases hlt : k < 8
       · have hpos : k < D.size := by omega
         obtain ⟨c, hc⟩ : ∃ c : UInt8, c = D[k] := ⟨_, rfl⟩
         have Hstep : Hid (d.take (k + 1) = d.take k ++ [c]) := by
           rw [Hid, List.take_succ_eq_append_getElem (by rw [HD8.out]; exact hlt), hc]
           simp only [HD.out]; rfl
         by_cases ha : c.toNat < 128
         · have hnx : ∀ ty, (Instr.next (.pointer (some ⟨w1.heap.size, 0, none⟩)) true ty).run Tryz.prog (w1.iter D k) = .ok (.tuple #[.bool true, .int .i64 k, .int .i32 c.toNat]) (w1.iter D (k + 1)) := fun ty => by
             rw [hc]; exact run_next_ascii w1 D k ty hpos (by rw [← hc]; exact ha)
           clear hc
           by_cases h48 : c.toNat < 48
           · have hcd : isD c = false := by simp [isD]; omega
             have H := Lib.hid (HB.out (HG2.out.trans (all_false Hstep.out hcd)))
             clear hcd
             go_wp2
             go_ret2
             exact ⟨congrArg Ending.returned H.out.symm, (Below.refl _ _).alloc (Nat.le_refl _) _⟩
           · by_cases h57 : 57 < c.toNat
             · have hcd : isD c = false := by simp [isD]; omega
               have H := Lib.hid (HB.out (HG2.out.trans (all_false Hstep.out hcd)))
               clear hcd
               go_wp2
               go_ret2
               exact ⟨congrArg Ending.returned H.out.symm, (Below.refl _ _).alloc (Nat.le_refl _) _⟩
             · have hcd : isD c = true := by simp [isD]; omega
               have hall : (d.take (k + 1)).all isD = true := by rw [Hstep.out, List.all_append, Hv.out.2]; simp [hcd]
               have hval : val (d.take (k + 1)) = 10 * v + (c.toNat - 48) := by rw [Hstep.out, val_snoc, ← Hv.out.1]
               have hbd := val_bound (k + 1) (d.take (k + 1)) (by rw [List.length_take, HD8.out]; omega) hall
               have hpow : 10 ^ (k + 1) ≤ 10 ^ 8 := Nat.pow_le_pow_right (by decide) (by omega)
               have hnew : 10 * v + (c.toNat - 48) < 10 ^ 8 := by rw [← hval]; omega
               have HN := Lib.hid (And.intro hval.symm hall)
               clear hcd hall hval hbd hpow
               go_wp2
               go_roundw
               case rel => exact ⟨k + 1, 10 * v + (c.toNat - 48), by omega, rfl, hnew, by go_num, HN.out⟩
               case measure => simp; omega
         · have hhi := decode_high D k hpos (by rw [← hc]; omega)
           have hrl := decode_le D k
           have hnx : ∀ ty, (Instr.next (.pointer (some ⟨w1.heap.size, 0, none⟩)) true ty).run Tryz.prog (w1.iter D k) = _ := fun ty => run_next_any w1 D k ty hpos
           generalize (Utf8.decode D k).1 = r at *
           generalize k + (Utf8.decode D k).2 = k' at *
           have hr57 : 57 < r := by omega
           clear hc
           have hcd : isD c = false := by simp [isD]; omega
           have H := Lib.hid (HB.out (HG2.out.trans (all_false Hstep.out hcd)))
           clear hcd
           go_wp2
           go_ret2
           exact ⟨congrArg Ending.returned H.out.symm, (Below.refl _ _).alloc (Nat.le_refl _) _⟩
       · obtain rfl : k = 8 := by omega
         have ht : d.take 8 = d := List.take_of_length_le (by rw [HD8.out]; omega)
         have H := HV.out (HG2.out.trans (by rw [← ht]; exact Hv.out.2))
         rw [show val d = v by rw [Hv.out.1, ht]] at H
         have H' := Lib.hid H
         clear H ht
         have hnx : ∀ ty, (Instr.next (.pointer (some ⟨w1.heap.size, 0, none⟩)) true ty).run Tryz.prog (w1.iter D 8) = _ := fun ty => run_next_end w1 D 8 ty (by omega)
         go_wp2
         go_ret2
         exact ⟨congrArg Ending.returned H'.out.symm, (Below.refl _ _).alloc (Nat.le_refl _) _⟩
   · have hgood := HG.out
     rw [← hsz.out] at hgood
     rw [beq_eq_false_iff_ne.2 h8] at hgood
     simp only [Bool.and_false, Bool.false_and] at hgood
     have H := Lib.hid (HB.out hgood)
     have h8' : ((D.size : Int) != 8) = true := by rw [bne_iff_ne]; omega
     clear hgood h8
     go_enter Tryz.func113, Tryz.ntmps113
     go_wp2_with fail
     refine HC.out.mono ?_
     rintro e w1 ⟨rfl, rfl⟩
     go_wp2
     go_ret2
     exact ⟨congrArg Ending.returned H.out.symm, Below.refl _ _⟩
end Go.Proofs.YtgdmdbdljmlkkaaGreatDoor
