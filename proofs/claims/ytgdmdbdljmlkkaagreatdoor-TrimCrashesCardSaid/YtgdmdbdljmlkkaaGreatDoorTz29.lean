/- ScR2 -/
import Derived.Test.YtgdmdbdljmlkkaaGreatDoorTz25
set_option maxRecDepth 100000
set_option linter.unusedVariables false
set_option linter.unusedSimpArgs false
namespace Go.Proofs.YtgdmdbdljmlkkaaGreatDoor
open Go.RowKit
theorem pos_iff (R : List RF) (n : ByteArray) : (0 ≤ posR R n) ↔ (findD (R.map RF.f) n).isSome = true := by
 induction R with
 | nil => simp [posR, findD]
 | cons r l ih =>
   rw [posR, List.map_cons, findD]
   by_cases h : r.f.name = n
   · simp [h]
   · rw [if_neg h, if_neg h, ← ih]
     split
     · constructor <;> intro <;> omega
     · constructor <;> intro <;> omega
set_option maxHeartbeats 1000000 in
theorem rmarked_any (a : Option Addr) (c : Nat) (l : List UInt8) (w : World) (h : Reads w (.slice a l.length c) l.length 1 (byts l)) (hl : l.length ≤ 100000) :
   Calls Tryz.prog 91 #[.slice a l.length c] w fun e w' => e = .returned (.bool (markedB l)) ∧ Below w.heap.size w w' := by
 have HN := Lib.hid (rnext_any a c l w h hl)
 clear h
 cases hn : nextB l with
 | none =>
   rw [hn] at HN
   have hm : markedB l = false := by unfold markedB; rw [hn]
   rw [hm]
   go_enter Tryz.func91, Tryz.ntmps91
   go_wp2_with fail
   refine HN.out.mono ?_
   rintro e w2 ⟨xv, nv, rfl, ⟨rfl, rfl⟩, hb2⟩
   have HB2 := Lib.hid hb2
   clear hb2 HN
   go_wp2
   go_ret
   exact ⟨rfl, HB2.out⟩
 | some p =>
   obtain ⟨y, m⟩ := p
   have hp := nextB_pos hn
   rw [hn] at HN
   have hm : markedB l = decide (y = []) := by unfold markedB; rw [hn]
   rw [hm]
   by_cases hy : y = []
   · rw [decide_eq_true hy]
     go_enter Tryz.func91, Tryz.ntmps91
     go_wp2_with fail
     refine HN.out.mono ?_
     rintro e w2 ⟨xv, nv, rfl, ⟨⟨a2, c2, rfl⟩, rfl, -⟩, hb2⟩
     have HB2 := Lib.hid hb2
     clear hb2 HN
     subst hy
     simp only [List.length_nil] at *
     go_wp2
     go_ret
     exact ⟨rfl, HB2.out⟩
   · have hyl := List.length_pos_iff.2 hy
     rw [decide_eq_false hy]
     go_enter Tryz.func91, Tryz.ntmps91
     go_wp2_with fail
     refine HN.out.mono ?_
     rintro e w2 ⟨xv, nv, rfl, ⟨⟨a2, c2, rfl⟩, rfl, -⟩, hb2⟩
     have HB2 := Lib.hid hb2
     have hb0 : ((y.length : Int) == 0) = false := by simp; exact hy
     clear hb2 HN
     go_wp2
     go_ret
     exact ⟨rfl, HB2.out⟩
def olderL (L : List Int) (first : Int) : List ByteArray := (L.filter fun n => decide (n < first)).map nameI
theorem olderL_succ {L : List Int} {m : Nat} (h : m < L.length) (first : Int) : olderL (L.take (m + 1)) first = olderL (L.take m) first ++ (if L[m] < first then [nameI L[m]] else []) := by
 unfold olderL
 rw [List.take_succ_eq_append_getElem h, List.filter_append, List.map_append]
 by_cases hc : L[m] < first <;> simp [hc]
theorem olderL_len (L : List Int) (first : Int) : (olderL L first).length ≤ L.length := by
 unfold olderL; rw [List.length_map]; exact List.length_filter_le _ _
theorem olderL_take {L : List Int} (h : Inc L) {k : Nat} (hk : k < L.length) : olderL L L[k] = (L.take k).map nameI := by
 have h1 : ∀ a ∈ L.take k, a < L[k] := fun a ha => by
   obtain ⟨j, hj, rfl⟩ := List.mem_iff_getElem.1 ha
   rw [List.length_take] at hj
   rw [List.getElem_take]
   exact List.pairwise_iff_getElem.1 h j k (by omega) (by omega) (by omega)
 have h2 : ∀ a ∈ L.drop k, ¬ a < L[k] := fun a ha => by
   obtain ⟨j, hj, rfl⟩ := List.mem_iff_getElem.1 ha
   rw [List.length_drop] at hj
   rw [List.getElem_drop]
   rcases Nat.eq_zero_or_pos j with h0 | h0
   · subst h0; simp
   · have := List.pairwise_iff_getElem.1 h k (k + j) (by omega) (by omega) (by omega)
     omega
 generalize L[k] = x at *
 unfold olderL
 congr 1
 conv => lhs; rw [← List.take_append_drop k L]
 rw [List.filter_append, List.filter_eq_self.2 (fun a ha => decide_eq_true (h1 a ha)), List.filter_eq_nil_iff.2 (fun a ha => by simpa using h2 a ha), List.append_nil]
set_option maxHeartbeats 1000000 in
theorem rolder_any (v : Value) (L : List Int) (first : Int) (w : World) (hr : Reads w v L.length 1 (ints L)) (hl : L.length ≤ 1000) :
   Calls Tryz.prog 89 #[v, .int .i64 first] w fun e w' => ∃ v', e = .returned v' ∧ Row w' 9 1 v' (olderL L first).length (strsV (olderL L first)) (fun k => w.heap.size ≤ k) ∧ Below w.heap.size w w' := by
 have HR := Lib.hid hr
 obtain ⟨-, va, vc, rfl, -⟩ := hr
 go_enter Tryz.func89, Tryz.ntmps89
 go_wp2_with fail
 go_loopw [5, 6] (fun out i w' => ∃ m : Nat, m ≤ L.length ∧ i = .int .i64 m ∧ Hid (Row w' 9 1 out (olderL (L.take m) first).length (strsV (olderL (L.take m) first)) (fun k => w.heap.size ≤ k)) ∧ Hid (Below w.heap.size w w')) (fun _ i _ => L.length - (RowKit.intOf i).toNat)
 case atStart => exact ⟨0, by omega, rfl, Row.nil _ _ _ _, Below.refl _ _⟩
 case round =>
   obtain ⟨m, hm, rfl, HO, HB⟩ := hrel
   by_cases hlt : m < L.length
   · obtain ⟨b, o, c', hv, hle, hb, hc⟩ := (HR.out.later HB.out).at (by omega)
     obtain ⟨rfl, rfl⟩ : va = some ⟨b, o, none⟩ ∧ vc = c' := by cases hv; exact ⟨rfl, rfl⟩
     have hcm : wr.cell? ⟨b, o + m, none⟩ = some (.int .i64 L[m]) := hc m _ (by simp [hlt])
     have HS := Lib.hid (olderL_succ hlt first)
     have hol := olderL_len (L.take m) first
     rw [List.length_take] at hol
     have hol2 : (olderL (L.take m) first).length ≤ 1000 := by omega
     have hbl := HB.out.size
     generalize L[m] = n at *
     generalize olderL (L.take m) first = Q at *
     clear hv hc hol
     by_cases hk : n < first
     · rw [if_pos hk] at HS
       go_wp2_with fail
       refine (refName_any n _).mono ?_
       rintro e w3 ⟨rfl, rfl⟩
       generalize nameI n = key at *
       have HFM : Hid (strsV (Q ++ [key]) = strsV Q ++ [.string key]) := by simp [Hid]
       go_wp2_with (refine wpList_row elemStr rfl rfl (S := fun k => w.heap.size ≤ k) (n := Q.length) (xs := strsV Q) rfl (HO.out.frame (fun k _ hk => Below.heap_alloc _ _ _ hk)) (y := .slice (some ⟨wr.heap.size, 0, none⟩) 1 1) (m := 1) (news := [.string key]) rfl (reads_one wr _ _) (one_of rfl) (by unfold maxLen; omega) (by omega) ?_; intro v5 w5 hr5 hch5)
       go_roundw
       case rel =>
         refine ⟨m + 1, by omega, by go_num, ?_, (HB.out.alloc hbl _).trans (hch5.toBelow (by simp <;> omega) (fun n hn h => by omega))⟩
         rw [Hid, HS.out, HFM.out, List.length_append]
         exact hr5.mono (fun k hk => by rcases hk with hk | hk; exact hk; simp only [World.size_alloc] at hk; omega)
       case measure => simp [RowKit.intOf]; omega
     · rw [if_neg hk, List.append_nil] at HS
       go_wp2
       go_roundw
       case rel => exact ⟨m + 1, by omega, by go_num, by rw [Hid, HS.out]; exact HO.out, HB⟩
       case measure => simp [RowKit.intOf]; omega
   · obtain rfl : m = L.length := by omega
     rw [List.take_length] at HO
     go_wp2
     go_ret
     exact ⟨_, rfl, HO.out, HB.out⟩
structure RO where
 o : OP
 a : Option Addr
 c : Nat
abbrev RO.val (r : RO) : Value := .agg #[.int .i64 r.o.k, .string r.o.n, .string r.o.t, .slice r.a r.o.b.length r.c]
abbrev opcells (r : RO) : List Value := [.int .i64 r.o.k, .string r.o.n, .string r.o.t, .slice r.a r.o.b.length r.c]
theorem opcells_len : ∀ r, (opcells r).length = 4 := fun _ => rfl
theorem elemOp : ElemOf Tryz.prog 127 112 (.agg #[.int .i64 0, .string ⟨#[]⟩, .string ⟨#[]⟩, .slice none 0 0]) 4 64 := ⟨Tryz.underlying127, by kernel_rfl, rfl, by decide⟩
abbrev bareO (o : OP) : RO := ⟨o, none, 0⟩
theorem cleanL_succ {ss : List ByteArray} {m : Nat} (h : m < ss.length) (D : DS) : cleanL D (ss.take (m + 1)) = cleanL D (ss.take m) ++ (if (findD D.files ss[m]).isSome then [rmO ss[m]] else []) := by
 unfold cleanL
 rw [List.take_succ_eq_append_getElem h, List.filter_append, List.map_append]
 by_cases hc : (findD D.files ss[m]).isSome = true
 · simp [hc]
 · simp [hc]
theorem cleanL_len (D : DS) (ss : List ByteArray) : (cleanL D ss).length ≤ ss.length := by
 unfold cleanL; rw [List.length_map]; exact List.length_filter_le _ _
theorem opcells_one (P : List RO) : ∀ u ∈ P.flatMap opcells, u.oneCell' = true := by
 intro u hu
 obtain ⟨r, -, hr⟩ := List.mem_flatMap.1 hu
 simp only [List.mem_cons, List.not_mem_nil, or_false] at hr
 rcases hr with rfl | rfl | rfl | rfl <;> rfl
set_option maxHeartbeats 2000000 in
theorem rclean_any (room plan : Int) (down : Bool) (v : Value) (R : List RF) (T : Nat → Prop) (va : Value) (ss : List ByteArray) (w : World) (h : RLi w v R T) (hL : R.length ≤ 100000) (hr : Reads w va ss.length 1 (strsV ss)) (hl : ss.length ≤ 1000) :
   Calls Tryz.prog 87 #[rdisk room v plan down, va] w fun e w' => ∃ v', e = .returned v' ∧ Row w' 112 4 v' (cleanL ⟨room, R.map RF.f, plan, down⟩ ss).length (((cleanL ⟨room, R.map RF.f, plan, down⟩ ss).map bareO).flatMap opcells) (fun k => w.heap.size ≤ k) ∧ Below w.heap.size w w' := by
 obtain ⟨la, lc, rfl⟩ := slice_form h.row
 have HFD := Lib.hid (fun (n : ByteArray) (w' : World) (hb : Below w.heap.size w w') => rfind_any room plan down (.slice la R.length lc) R T n w' (h.below hb) (by omega))
 have HR := Lib.hid hr
 obtain ⟨-, sa, sc, rfl, -⟩ := hr
 obtain ⟨D, hD⟩ : ∃ D : DS, D = ⟨room, R.map RF.f, plan, down⟩ := ⟨_, rfl⟩
 have HPI : Hid (∀ n, (0 ≤ posR R n) ↔ (findD D.files n).isSome = true) := fun n => by rw [hD]; exact pos_iff R n
 rw [← hD]
 unfold rdisk at HFD ⊢
 have HBX : Hid ((w.alloc (.cells #[.int .i64 room, .slice la R.length lc, .int .i64 plan, .bool down] 32)).heap[w.heap.size]? = some (.cells #[.int .i64 room, .slice la R.length lc, .int .i64 plan, .bool down] 32 (0, 0))) := heap_alloc_new w _
 have HBW : Hid (Below w.heap.size w (w.alloc (.cells #[.int .i64 room, .slice la R.length lc, .int .i64 plan, .bool down] 32))) := (Below.refl _ _).alloc (Nat.le_refl _) _
 clear h hD
 go_enter Tryz.func87, Tryz.ntmps87
 go_upto_region 1 with fail
 generalize w.alloc (.cells #[.int .i64 room, .slice la R.length lc, .int .i64 plan, .bool down] 32) = wa at *
 go_wp2_with fail
 go_loopw [5, 6] (fun out i w' => ∃ m : Nat, m ≤ ss.length ∧ i = .int .i64 m ∧ Hid (Row w' 112 4 out (cleanL D (ss.take m)).length (((cleanL D (ss.take m)).map bareO).flatMap opcells) (fun k => wa.heap.size ≤ k)) ∧ Hid (Below wa.heap.size wa w')) (fun _ i _ => ss.length - (RowKit.intOf i).toNat)
 case atStart => exact ⟨0, by omega, rfl, Row.nil _ _ _ _, Below.refl _ _⟩
 case round =>
   obtain ⟨m, hm, rfl, HO, HB⟩ := hrel
   have HBL := Lib.hid (HBW.out.trans (HB.out.mono HBW.out.size))
   by_cases hlt : m < ss.length
   · obtain ⟨b, o, c', hv, hle, hb, hc⟩ := (HR.out.later HBL.out).at (by omega)
     obtain ⟨rfl, rfl⟩ : sa = some ⟨b, o, none⟩ ∧ sc = c' := by cases hv; exact ⟨rfl, rfl⟩
     have hcm : wr.cell? ⟨b, o + m, none⟩ = some (.string ss[m]) := hc m _ (by simp [hlt])
     have HS := Lib.hid (cleanL_succ hlt D)
     have hol := cleanL_len D (ss.take m)
     rw [List.length_take] at hol
     have hol2 : (cleanL D (ss.take m)).length ≤ 1000 := by omega
     have HP := Lib.hid (HPI.out ss[m])
     generalize ss[m] = n at *
     generalize cleanL D (ss.take m) = Q at *
     clear hv hc hol
     have HF2 : Hid (∀ w', Hid (Below wr.heap.size wr w') → Calls Tryz.prog 70 #[.agg #[.int .i64 room, .slice la R.length lc, .int .i64 plan, .bool down], .string n] w' fun e w'' => e = .returned (.int .i64 (posR R n)) ∧ Below w'.heap.size w' w'') := fun w' hb => HFD.out n w' (HBL.out.trans (hb.out.mono HBL.out.size))
     have HX2 := Lib.hid ((HB.out.block _ (lt_of_heap HBX.out)).trans HBX.out)
     have HK : Hid (∀ w', Hid (Below wr.heap.size wr w') → (w'.cell? ⟨w.heap.size, 0, none⟩ = some (.int .i64 room) ∧ w'.cell? ⟨w.heap.size, 1, none⟩ = some (.slice la R.length lc) ∧ w'.cell? ⟨w.heap.size, 2, none⟩ = some (.int .i64 plan) ∧ w'.cell? ⟨w.heap.size, 3, none⟩ = some (.bool down)) ∧ w'.cell? ⟨b, o + m, none⟩ = some (.string n)) := fun w' hbw => ⟨cells4 ((hbw.out.block _ (lt_of_heap HX2.out)).trans HX2.out), (hbw.out.cell (p := ⟨b, o + m, none⟩) hb).trans hcm⟩
     have HB00 : Hid (Below wr.heap.size wr wr.drew) := (Below.refl _ _).drew
     generalize posR R n = ps at *
     go_upto_region 5 with fail
     go_region_held3 (fun w' => (w'.cell? ⟨w.heap.size, 0, none⟩ = some (.int .i64 room) ∧ w'.cell? ⟨w.heap.size, 1, none⟩ = some (.slice la R.length lc) ∧ w'.cell? ⟨w.heap.size, 2, none⟩ = some (.int .i64 plan) ∧ w'.cell? ⟨w.heap.size, 3, none⟩ = some (.bool down)) ∧ w'.cell? ⟨b, o + m, none⟩ = some (.string n)) (exact HK.out _ (by assumption))
       (first
       | (go_at_call 70; refine (HF2.out _ (by assumption)).mono ?_; rintro e wb ⟨rfl, hba⟩
          have HBa := belh_step (w0 := wr) (by assumption) hba
          clear hba))
     have HB3 := Lib.hid (HB.out.trans (HBa.out.mono HB.out.size))
     have HO3 := Lib.hid (HO.out.frame (fun k _ hk => HBa.out.block k hk))
     have hbl := HB3.out.size
     obtain ⟨-, hcm2⟩ := HK.out wb HBa
     clear HB HO HK HF2 HX2 HBa hcm hb
     by_cases hk : 0 ≤ ps
     · have hsm := HP.out.1 hk
       rw [hsm, if_pos rfl] at HS
       have HFM : Hid (((Q ++ [rmO n]).map bareO).flatMap opcells = (Q.map bareO).flatMap opcells ++ [.int .i64 5, .string n, .string ⟨#[]⟩, .slice none 0 0]) := by simp [Hid]
       go_wp2_with (refine wpList_row elemOp rfl rfl (S := fun k => wa.heap.size ≤ k) (n := Q.length) (xs := (Q.map bareO).flatMap opcells) rfl (HO3.out.frame (fun k _ hk => Below.heap_alloc _ _ _ hk)) (y := .slice (some ⟨wb.heap.size, 0, none⟩) 1 1) (m := 1) (news := [.int .i64 5, .string n, .string ⟨#[]⟩, .slice none 0 0]) rfl (Reads.single (heap_alloc_new wb _)) (by intro u hu; simp only [List.mem_cons, List.not_mem_nil, or_false] at hu; rcases hu with rfl | rfl | rfl | rfl <;> rfl) (by unfold maxLen; omega) (by omega) ?_; intro v5 w5 hr5 hch5)
       go_roundw
       case rel =>
         refine ⟨m + 1, by omega, by go_num, ?_, (HB3.out.alloc hbl _).trans (hch5.toBelow (by simp <;> omega) (fun n hn h => by omega))⟩
         rw [Hid, HS.out, HFM.out, List.length_append]
         exact hr5.mono (fun k hk => by rcases hk with hk | hk; exact hk; simp only [World.size_alloc] at hk; omega)
       case measure => simp [RowKit.intOf]; omega
     · have hsm : (findD D.files n).isSome = false := by
         cases hq : (findD D.files n).isSome with
         | false => rfl
         | true => exact absurd (HP.out.2 hq) hk
       rw [hsm, if_neg (by decide), List.append_nil] at HS
       go_wp2
       go_roundw
       case rel => exact ⟨m + 1, by omega, by go_num, by rw [Hid, HS.out]; exact HO3.out, HB3⟩
       case measure => simp [RowKit.intOf]; omega
   · obtain rfl : m = ss.length := by omega
     rw [List.take_length] at HO
     have hs := HBW.out.size
     go_wp2
     go_ret
     exact ⟨_, rfl, HO.out.mono (fun k hk => by omega), HBL.out⟩
theorem sum_outF_hit {l : List DF} {n : ByteArray} {f : DF} (h : findD l n = some f) : sumD (outF l n) + f.b.length ≤ sumD l := by
 induction l with
 | nil => cases h
 | cons a l ih =>
   rw [findD] at h
   unfold outF at ih ⊢
   rw [List.filter_cons]
   by_cases hn : a.name = n
   · rw [if_pos hn] at h
     cases h
     rw [if_neg (by simpa using hn), sumD_cons]
     have := sum_outF l n
     unfold outF at this
     omega
   · rw [if_neg hn] at h
     rw [if_pos (by simpa using hn), sumD_cons, sumD_cons]
     have := ih h
     omega
theorem len_insF (l : List DF) (f : DF) : (insF l f).length = l.length + 1 := by
 induction l with
 | nil => rfl
 | cons a l ih =>
   rw [insF]
   split
   · rw [List.length_cons, ih, List.length_cons]
   · rfl
theorem len_outF (l : List DF) (n : ByteArray) : (outF l n).length ≤ l.length := List.length_filter_le _ _
structure BR (D : DS) (s n : Nat) : Prop where
 sum : sumD D.files ≤ s
 len : D.files.length ≤ n
 plan : 0 ≤ D.plan ∧ D.plan ≤ 9223372036854775807
theorem BR.more {D : DS} {s n s' n' : Nat} (h : BR D s n) (hs : s ≤ s') (hn : n ≤ n') : BR D s' n' := ⟨by have := h.sum; omega, by have := h.len; omega, h.plan⟩
theorem br_do {D : DS} {s n : Nat} (h : BR D s n) (o : OP) : BR (doR D o).1 (s + o.b.length) (n + 1) := by
 have h1 := h.sum
 have h2 := h.len
 have h3 := h.plan
 have hst : 0 ≤ max (D.plan - 1) 0 ∧ max (D.plan - 1) 0 ≤ 9223372036854775807 := by omega
 have hput : ∀ (l : List DF) (f : DF) (t : Nat), sumD (outF l f.name) + f.b.length ≤ t → sumD (putF l f) ≤ t := fun l f t ht => by unfold putF; rw [sum_insF]; omega
 have hlen : ∀ (l : List DF) (f : DF), (putF l f).length ≤ l.length + 1 := fun l f => by unfold putF; rw [len_insF]; have := len_outF l f.name; omega
 unfold doR
 generalize kN o.k = k
 unfold doF
 by_cases hd : D.down = true
 · rw [if_pos hd]; exact h.more (by omega) (by omega)
 rw [if_neg hd]
 by_cases hp : D.plan = 1
 · rw [if_pos hp]; exact ⟨by show sumD D.files ≤ _; omega, by show D.files.length ≤ _; omega, by show (0 : Int) ≤ 0 ∧ (0 : Int) ≤ _; omega⟩
 rw [if_neg hp]
 split
 · exact ⟨by show sumD D.files ≤ _; omega, by show D.files.length ≤ _; omega, hst⟩
 split
 · split
   · exact ⟨by show sumD D.files ≤ _; omega, by show D.files.length ≤ _; omega, hst⟩
   · refine ⟨hput _ _ _ ?_, ?_, hst⟩
     · have := sum_outF D.files o.n; simp; omega
     · have := hlen D.files ⟨o.n, [], 0⟩; show (putF D.files ⟨o.n, [], 0⟩).length ≤ _; omega
 · cases hf : findD D.files o.n with
   | none => exact ⟨by show sumD D.files ≤ _; omega, by show D.files.length ≤ _; omega, hst⟩
   | some f =>
     have hn := (findD_name hf).1
     have hh := sum_outF_hit hf
     simp only
     split
     · split
       · exact ⟨by show sumD D.files ≤ _; omega, by show D.files.length ≤ _; omega, hst⟩
       · refine ⟨hput _ _ _ ?_, ?_, hst⟩
         · show sumD (outF D.files f.name) + (f.b ++ o.b).length ≤ _; rw [hn, List.length_append]; omega
         · have := hlen D.files ⟨f.name, f.b ++ o.b, f.d⟩; show (putF D.files ⟨f.name, f.b ++ o.b, f.d⟩).length ≤ _; omega
     · split
       · refine ⟨hput _ _ _ ?_, ?_, hst⟩
         · show sumD (outF D.files f.name) + f.b.length ≤ _; rw [hn]; omega
         · have := hlen D.files ⟨f.name, f.b, f.b.length⟩; show (putF D.files ⟨f.name, f.b, f.b.length⟩).length ≤ _; omega
       · split
         · refine ⟨hput _ _ _ ?_, ?_, hst⟩
           · have := sum_outF (outF D.files o.n) o.t; show sumD (outF (outF D.files o.n) o.t) + f.b.length ≤ _; omega
           · have := hlen (outF D.files o.n) ⟨o.t, f.b, f.d⟩; have := len_outF D.files o.n; show (putF (outF D.files o.n) ⟨o.t, f.b, f.d⟩).length ≤ _; omega
         · exact ⟨by have := sum_outF D.files o.n; show sumD (outF D.files o.n) ≤ _; omega, by have := len_outF D.files o.n; show (outF D.files o.n).length ≤ _; omega, hst⟩
theorem rdoop_any (room plan : Int) (down : Bool) (v : Value) (R : List RF) (T : Nat → Prop) (r : RO) (w : World) (h : RLi w v R T) (hL : R.length ≤ 5000) (hp : 0 ≤ plan ∧ plan ≤ 9223372036854775807)
   (hn : r.o.n.size ≤ 100000) (hto : r.o.t.size ≤ 100000) (hb : Reads w (.slice r.a r.o.b.length r.c) r.o.b.length 1 (byts r.o.b)) (hs : sumR R + r.o.b.length ≤ 1000000000) (hk : 1 ≤ r.o.k ∧ r.o.k ≤ 5) :
   Calls Tryz.prog 64 #[rdisk room v plan down, r.val] w (RPost w T (doR ⟨room, R.map RF.f, plan, down⟩ r.o)) := by
 obtain ⟨⟨k, n, t, b⟩, a, c⟩ := r
 simp only at *
 have h5 : k = 1 ∨ k = 2 ∨ k = 3 ∨ k = 4 ∨ k = 5 := by omega
 rcases h5 with rfl | rfl | rfl | rfl | rfl
 · exact rdo1_any room plan down v R T n t b a c w h hL hp hn hto hb hs
 · exact rdo2_any room plan down v R T n t b a c w h hL hp hn hto hb hs
 · exact rdo3_any room plan down v R T n t b a c w h hL hp hn hto hb hs
 · exact rdo4_any room plan down v R T n t b a c w h hL hp hn hto hb hs
 · exact rdo5_any room plan down v R T n t b a c w h hL hp hn hto hb hs
structure ROs (w : World) (v : Value) (P : List RO) : Prop where
 rd : Reads w v P.length 4 (P.flatMap opcells)
 each : ∀ r ∈ P, Reads w (.slice r.a r.o.b.length r.c) r.o.b.length 1 (byts r.o.b)
 good : ∀ r ∈ P, (1 ≤ r.o.k ∧ r.o.k ≤ 5) ∧ r.o.n.size ≤ 100000 ∧ r.o.t.size ≤ 100000
theorem ROs.later {w w' : World} {v : Value} {P : List RO} (h : ROs w v P) (hb : Below w.heap.size w w') : ROs w' v P := ⟨h.rd.later hb, fun r hr => (h.each r hr).later hb, h.good⟩
theorem ROs.head {w : World} {a : Option Addr} {c : Nat} {P : List RO} (h : ROs w (.slice a P.length c) P) {j : Nat} (hj : j < P.length) :
   ∃ b o, a = some ⟨b, o, none⟩ ∧ P.length ≤ c ∧ b < w.heap.size ∧ w.cell? ⟨b, o + j * 4, none⟩ = some (.int .i64 P[j].o.k) ∧ w.cell? ⟨b, o + j * 4 + 1, none⟩ = some (.string P[j].o.n) ∧
     w.cell? ⟨b, o + j * 4 + 2, none⟩ = some (.string P[j].o.t) ∧ w.cell? ⟨b, o + j * 4 + 3, none⟩ = some (.slice P[j].a P[j].o.b.length P[j].c) := by
 obtain ⟨b, o, rfl, h1, -, h2, h3⟩ := h.rd.atN (by omega) (by decide)
 refine ⟨b, o, rfl, h1, h2, ?_, ?_, ?_, ?_⟩
 · exact h3 (j * 4) _ (by simpa using fm_get opcells_len (List.getElem?_eq_getElem hj) 0 _ rfl)
 · rw [Nat.add_assoc]; exact h3 (j * 4 + 1) _ (fm_get opcells_len (List.getElem?_eq_getElem hj) 1 _ rfl)
 · rw [Nat.add_assoc]; exact h3 (j * 4 + 2) _ (fm_get opcells_len (List.getElem?_eq_getElem hj) 2 _ rfl)
 · rw [Nat.add_assoc]; exact h3 (j * 4 + 3) _ (fm_get opcells_len (List.getElem?_eq_getElem hj) 3 _ rfl)
def bytsO (P : List RO) : Nat := (P.map fun r => r.o.b.length).sum
theorem bytsO_succ {P : List RO} {m : Nat} (h : m < P.length) : bytsO (P.take (m + 1)) = bytsO (P.take m) + P[m].o.b.length := by
 unfold bytsO
 rw [List.take_succ_eq_append_getElem h, List.map_append, List.sum_append]; simp
theorem bytsO_take (P : List RO) (m : Nat) : bytsO (P.take m) ≤ bytsO P := by
 conv => rhs; rw [← List.take_append_drop m P]
 unfold bytsO
 rw [List.map_append, List.sum_append]; omega
structure MidS (wa W : World) (b4 : Nat) (U : Nat → Prop) (r1 : Int) (a3 : Option Addr) (c3 : Nat) (R3 : List RF) (r3 : Int) (r4 : Bool) : Prop where
 blk : W.heap[b4]? = some (.cells #[.int .i64 r1, .slice a3 R3.length c3, .int .i64 r3, .bool r4] 32 (0, 0))
 lst : RLi W (.slice a3 R3.length c3) R3 (fun k => (U k ∨ wa.heap.size ≤ k) ∧ k ≠ b4)
 bel : Below wa.heap.size wa W
 beh : wa.heap.size ≤ b4
theorem mids_late {wa w3 : World} {m : Nat} {U : Nat → Prop} {r1 : Int} {a3 : Option Addr} {c3 : Nat} {R3 : List RF} {r3 : Int} {r4 : Bool} (hb : Below wa.heap.size wa w3) (hr : RLi w3 (.slice a3 R3.length c3) R3 (fun k => U k ∨ m ≤ k)) (hm : wa.heap.size ≤ m) :
   MidS wa (w3.alloc (.cells #[.int .i64 r1, .slice a3 R3.length c3, .int .i64 r3, .bool r4] 32)) w3.heap.size U r1 a3 c3 R3 r3 r4 :=
 ⟨heap_alloc_new _ _, (hr.tight.below ((Below.refl _ _).alloc (Nat.le_refl _) _)).mono (fun k hk => ⟨by rcases hk.1 with h | h; exact .inl h; exact .inr (by omega), by have := hk.2; omega⟩), hb.alloc hb.size _, hb.size⟩
theorem mids_set {wa w3 : World} {m b4 : Nat} {U : Nat → Prop} {r1 : Int} {a3 : Option Addr} {c3 : Nat} {R3 : List RF} {r3 : Int} {r4 : Bool} {x0 x1 x2 x3 : Value} (hz : w3.heap[b4]? = some (.cells #[x0, x1, x2, x3] 32 (0, 0))) (hb : Below wa.heap.size wa w3) (hr : RLi w3 (.slice a3 R3.length c3) R3 (fun k => U k ∨ m ≤ k)) (hU : ∀ k, U k → k < wa.heap.size) (h4 : wa.heap.size ≤ b4) (hm : b4 < m) :
   MidS wa ((((w3.setCell ⟨b4, 0, none⟩ (.int .i64 r1)).setCell ⟨b4, 1, none⟩ (.slice a3 R3.length c3)).setCell ⟨b4, 2, none⟩ (.int .i64 r3)).setCell ⟨b4, 3, none⟩ (.bool r4)) b4 U r1 a3 c3 R3 r3 r4 := by
 have hno : ¬ (U b4 ∨ m ≤ b4) := by rintro (h | h); have := hU _ h; omega; omega
 refine ⟨heap_store (heap_store (heap_store (heap_store hz 0 (.int .i64 r1)) 1 (.slice a3 R3.length c3)) 2 (.int .i64 r3)) 3 (.bool r4), ?_, (((hb.setCell (p := ⟨b4, 0, none⟩) h4 _).setCell (p := ⟨b4, 1, none⟩) h4 _).setCell (p := ⟨b4, 2, none⟩) h4 _).setCell (p := ⟨b4, 3, none⟩) h4 _, h4⟩
 exact ((((hr.store (p := ⟨b4, 0, none⟩) hno _).store (p := ⟨b4, 1, none⟩) hno _).store (p := ⟨b4, 2, none⟩) hno _).store (p := ⟨b4, 3, none⟩) hno _).mono (fun k hk => ⟨by rcases hk with h | h; exact .inl h; exact .inr (by omega), fun e => hno (e ▸ hk)⟩)
theorem rdisk_end {fn : Func} {p u : Tmp} (hres : fn.results = #[.cell p 32, .tmp u]) {w wz : World} {b1 : Nat} {T TT : Nat → Prop} {room plan : Int} {down : Bool} {v : Value} {R : List RF} {r : DS × Int} {x0 x1 x2 x3 : Value} (code : Int) (hz : wz.heap[b1]? = some (.cells #[x0, x1, x2, x3] 32 (0, 0)))
   (hb1 : w.heap.size ≤ b1) (hb : Below w.heap.size w wz) (hr : RLi wz v R TT) (hTT : ∀ k, TT k → T k ∨ w.heap.size ≤ k) (hno : ¬ TT b1) (he : r = (⟨room, R.map RF.f, plan, down⟩, code)) {tmps : Array Value} (h4 : tmps.getD p undef = .pointer (some ⟨b1, 0, none⟩)) (h5 : tmps.getD u undef = .int .i64 code) :
   bodyPost Tryz.prog fn (RPost w T r) Exit.ret { tmps := tmps, defers := [] } ((((wz.setCell ⟨b1, 0, none⟩ (.int .i64 room)).setCell ⟨b1, 1, none⟩ v).setCell ⟨b1, 2, none⟩ (.int .i64 plan)).setCell ⟨b1, 3, none⟩ (.bool down)) := by
 have HRF := heap_store (heap_store (heap_store (heap_store hz 0 (.int .i64 room)) 1 v) 2 (.int .i64 plan)) 3 (.bool down)
 refine bodyPost_ret (results_row_tmp1 (P := Tryz.prog) hres _ _ b1 32 #[.int .i64 room, v, .int .i64 plan, .bool down] (0, 0) _ h4 HRF Tryz.underlying32 rfl rfl) rfl ?_
 rw [h5, he]
 refine ⟨v, R, rfl, rfl, ?_, (((hb.setCell (p := ⟨b1, 0, none⟩) hb1 _).setCell (p := ⟨b1, 1, none⟩) hb1 _).setCell (p := ⟨b1, 2, none⟩) hb1 _).setCell (p := ⟨b1, 3, none⟩) hb1 _⟩
 exact ((((hr.store (p := ⟨b1, 0, none⟩) hno _).store (p := ⟨b1, 1, none⟩) hno _).store (p := ⟨b1, 2, none⟩) hno _).store (p := ⟨b1, 3, none⟩) hno _).mono hTT
structure StI (w w' : World) (T : Nat → Prop) (rm : Int) (a : Option Addr) (c : Nat) (R : List RF) (pl : Int) (dn : Bool) : Prop where
 box : w'.heap[w.heap.size]? = some (.cells #[.int .i64 rm, .slice a R.length c, .int .i64 pl, .bool dn] 32 (0, 0))
 res : w'.heap[w.heap.size + 1]? = some (.cells #[.int .i64 0, .slice none 0 0, .int .i64 0, .bool false] 32 (0, 0))
 lst : RLi w' (.slice a R.length c) R (fun k => ((T k ∧ k < w.heap.size) ∨ w.heap.size + 2 ≤ k) ∧ k < w'.heap.size)
 bel : Below w.heap.size w w'
theorem StI.sub {w w' : World} {T : Nat → Prop} {rm : Int} {a : Option Addr} {c : Nat} {R : List RF} {pl : Int} {dn : Bool} (h : StI w w' T rm a c R pl dn) : w.heap.size + 2 ≤ w'.heap.size := lt_of_heap h.res
set_option maxHeartbeats 4000000 in
theorem rsteps_any (room plan : Int) (down : Bool) (v : Value) (R : List RF) (T : Nat → Prop) (va : Option Addr) (vc : Nat) (P : List RO) (w : World) (h : RLi w v R T) (hP : ROs w (.slice va P.length vc) P) (hl : P.length ≤ 2000) {s n : Nat} (hb : BR ⟨room, R.map RF.f, plan, down⟩ s n) (hn : n ≤ 2000) (hs : s + bytsO P ≤ 1000000) :
   Calls Tryz.prog 71 #[rdisk room v plan down, .slice va P.length vc] w (RPost w T (stepsG doR ⟨room, R.map RF.f, plan, down⟩ (P.map RO.o))) := by
 obtain ⟨la, lc, rfl⟩ := slice_form h.row
 have HP := Lib.hid hP
 have HBR := Lib.hid hb
 obtain ⟨rr, hrr⟩ : ∃ r, r = stepsG doR ⟨room, R.map RF.f, plan, down⟩ (P.map RO.o) := ⟨_, rfl⟩
 have HRR : Hid (rr = stepsG doR ⟨room, R.map RF.f, plan, down⟩ ((P.drop 0).map RO.o)) := hrr
 rw [← hrr]
 obtain ⟨Q, hQ⟩ : ∃ Q, Q = RPost w T rr := ⟨_, rfl⟩
 have HQ := Lib.hid hQ
 rw [← hQ]
 unfold rdisk
 have hb2 : Below w.heap.size w ((w.alloc (.cells #[.int .i64 room, .slice la R.length lc, .int .i64 plan, .bool down] 32)).alloc (.cells #[.int .i64 0, .slice none 0 0, .int .i64 0, .bool false] 32)) := ((Below.refl _ _).alloc (Nat.le_refl _) _).alloc (by simp) _
 have HI : Hid (StI w ((w.alloc (.cells #[.int .i64 room, .slice la R.length lc, .int .i64 plan, .bool down] 32)).alloc (.cells #[.int .i64 0, .slice none 0 0, .int .i64 0, .bool false] 32)) T room la lc R plan down) :=
   ⟨(alloc2_low w _ _).trans (heap_alloc_new _ _), alloc2_high w _ _ (heap_alloc_new _ _), (h.tight.below hb2).mono (fun k hk => ⟨.inl hk, by have := hk.2; simp; omega⟩), hb2⟩
 clear h hP hb hrr hQ hb2
 go_enter Tryz.func71, Tryz.ntmps71
 go_upto_region 1 with fail
 generalize (w.alloc (.cells #[.int .i64 room, .slice la R.length lc, .int .i64 plan, .bool down] 32)).alloc (.cells #[.int .i64 0, .slice none 0 0, .int .i64 0, .bool false] 32) = wa at *
 go_wp2_with fail
 go_loopw [6] (fun i w' => ∃ (k : Nat) (rm pl : Int) (dn : Bool) (a : Option Addr) (c : Nat) (R1 : List RF), k ≤ P.length ∧ i = .int .i64 k ∧ Hid (StI w w' T rm a c R1 pl dn) ∧ Hid (rr = stepsG doR ⟨rm, R1.map RF.f, pl, dn⟩ ((P.drop k).map RO.o)) ∧ Hid (BR ⟨rm, R1.map RF.f, pl, dn⟩ (s + bytsO (P.take k)) (n + k))) (fun i _ => P.length - (RowKit.intOf i).toNat)
 case atStart => exact ⟨0, room, plan, down, la, lc, R, by omega, rfl, HI, HRR, by simpa [Hid, bytsO] using HBR⟩
 case round =>
   obtain ⟨k, rm, pl, dn, a, c, R1, hk, rfl, HS, HR1, HB1⟩ := hrel
   by_cases hlt : k < P.length
   · obtain ⟨b, o, rfl, hle, hbk, c0, c1, c2, c3⟩ := (HP.out.later HS.out.bel).head hlt
     have hgd := HP.out.good P[k] (List.getElem_mem hlt)
     have hrd := (HP.out.later HS.out.bel).each P[k] (List.getElem_mem hlt)
     have hbs := bytsO_succ hlt
     have hbt := bytsO_take P (k + 1)
     have h1 := HB1.out.sum
     have h2 := HB1.out.len
     have h3 := HB1.out.plan
     simp only [List.length_map] at h2
     rw [← sumR_f] at h1
     have HDR : Hid ((P.drop k).map RO.o = P[k].o :: (P.drop (k + 1)).map RO.o) := by rw [Hid, List.drop_eq_getElem_cons hlt]; rfl
     have HBN := Lib.hid (br_do HB1.out P[k].o)
     rw [Nat.add_assoc, ← hbs] at HBN
     obtain ⟨U, hU⟩ : ∃ U : Nat → Prop, U = fun k => ((T k ∧ k < w.heap.size) ∨ w.heap.size + 2 ≤ k) ∧ k < wr.heap.size := ⟨_, rfl⟩
     have HUL : Hid (∀ k, U k → k < wr.heap.size) := fun k hk => by rw [hU] at hk; exact hk.2
     have HUN : Hid (¬ U w.heap.size ∧ ¬ U (w.heap.size + 1)) := by rw [Hid, hU]; constructor <;> rintro ⟨h | h, -⟩ <;> omega
     have HUT : Hid (∀ k, U k → (T k ∧ k < w.heap.size) ∨ w.heap.size + 2 ≤ k) := fun k hk => by rw [hU] at hk; exact hk.1
     have hlst := HS.out.lst
     rw [← hU] at hlst
     have HDO : Hid (∀ w', Hid (Below wr.heap.size wr w') → Calls Tryz.prog 64 #[rdisk rm (.slice a R1.length c) pl dn, P[k].val] w' (DoP w' U (doR ⟨rm, R1.map RF.f, pl, dn⟩ P[k].o))) := fun w' hb =>
       (rdoop_any rm pl dn _ R1 U P[k] w' (hlst.below hb.out) (by omega) h3 hgd.2.1 hgd.2.2 (hrd.later hb.out) (by omega) hgd.1).mono (fun e w2 he => dop_of he)
     have HK : Hid (∀ w', Hid (Below wr.heap.size wr w') → (w'.cell? ⟨w.heap.size, 0, none⟩ = some (.int .i64 rm) ∧ w'.cell? ⟨w.heap.size, 1, none⟩ = some (.slice a R1.length c) ∧ w'.cell? ⟨w.heap.size, 2, none⟩ = some (.int .i64 pl) ∧ w'.cell? ⟨w.heap.size, 3, none⟩ = some (.bool dn)) ∧ w'.cell? ⟨b, o + k * 4, none⟩ = some (.int .i64 P[k].o.k) ∧ w'.cell? ⟨b, o + k * 4 + 1, none⟩ = some (.string P[k].o.n) ∧ w'.cell? ⟨b, o + k * 4 + 2, none⟩ = some (.string P[k].o.t) ∧ w'.cell? ⟨b, o + k * 4 + 3, none⟩ = some (.slice P[k].a P[k].o.b.length P[k].c)) := fun w' hb =>
       ⟨cells4 ((hb.out.block _ (lt_of_heap HS.out.box)).trans HS.out.box), (hb.out.cell (p := ⟨b, o + k * 4, none⟩) hbk).trans c0, (hb.out.cell (p := ⟨b, o + k * 4 + 1, none⟩) hbk).trans c1, (hb.out.cell (p := ⟨b, o + k * 4 + 2, none⟩) hbk).trans c2, (hb.out.cell (p := ⟨b, o + k * 4 + 3, none⟩) hbk).trans c3⟩
     have HRN : Hid (rr = seqG (doR ⟨rm, R1.map RF.f, pl, dn⟩ P[k].o) fun D => stepsG doR D ((P.drop (k + 1)).map RO.o)) := by rw [Hid, HR1.out, HDR.out, stepsG]
     unfold RO.val at HDO
     generalize doR ⟨rm, R1.map RF.f, pl, dn⟩ P[k].o = r at *
     generalize P[k].o.b.length = ol at *
     generalize P[k].o.k = ok at *
     generalize P[k].o.n = on at *
     generalize P[k].o.t = ot at *
     generalize P[k].a = oa at *
     generalize P[k].c = oc at *
     obtain ⟨⟨r1, r2, r3, r4⟩, r5⟩ := r
     unfold rdisk DoP at HDO
     have HBA : Hid (Below wr.heap.size wr wr.drew) := (Below.refl _ _).drew
     have HBB : Hid (Below wr.heap.size wr (wr.drew.alloc (.cells #[.int .i64 0, .slice none 0 0, .int .i64 0, .bool false] 32))) := HBA.out.alloc (Nat.le_refl _) _
     clear hU hlst hgd hrd hbs hbt h1 h2 h3 c0 c1 c2 c3 HDR HR1 HB1 hbk
     go_upto_region 4 with fail
     go_region_held3 (fun w' => (w'.cell? ⟨w.heap.size, 0, none⟩ = some (.int .i64 rm) ∧ w'.cell? ⟨w.heap.size, 1, none⟩ = some (.slice a R1.length c) ∧ w'.cell? ⟨w.heap.size, 2, none⟩ = some (.int .i64 pl) ∧ w'.cell? ⟨w.heap.size, 3, none⟩ = some (.bool dn)) ∧ w'.cell? ⟨b, o + k * 4, none⟩ = some (.int .i64 ok) ∧ w'.cell? ⟨b, o + k * 4 + 1, none⟩ = some (.string on) ∧ w'.cell? ⟨b, o + k * 4 + 2, none⟩ = some (.string ot) ∧ w'.cell? ⟨b, o + k * 4 + 3, none⟩ = some (.slice oa ol oc)) (first | exact HK.out _ (by assumption) | exact HK.out _ (Lib.hid (by repeat (first | exact Hid.out (by assumption) | (refine Below.setCell ?_ (by first | exact Nat.le_refl _ | (dsimp only; assumption) | (dsimp only; omega)) _)))))
       (first
       | (go_at_call 64; refine (HDO.out _ (by assumption)).mono ?_; rintro e w3 ⟨a3, c3, R3, rfl, hf3, hr3, hb3⟩
          have HF3 := Lib.hid hf3
          have HR3 := Lib.hid hr3
          have HB3 := belh_step (w0 := wr) (by assumption) hb3
          have HB3a := Lib.hid (HB3.out.alloc HB3.out.size (.cells #[.int .i64 0, .slice none 0 0, .int .i64 0, .bool false] 32))
          have HB3b := Lib.hid (HB3.out.alloc HB3.out.size (.cells #[.int .i64 r1, .slice a3 R3.length c3, .int .i64 r3, .bool r4] 32))
          first
          | (have Z3 : Hid (w3.heap[wr.heap.size]? = some (.cells #[.int .i64 0, .slice none 0 0, .int .i64 0, .bool false] 32 (0, 0))) := (hb3.block wr.heap.size (by simp)).trans (heap_alloc_new wr.drew _)
             obtain ⟨z0, z1, z2, z3⟩ := cells4 Z3.out
             have f0 := freeAt Z3.out 0
             have f1 := freeAt Z3.out 1
             have f2 := freeAt Z3.out 2
             have f3 := freeAt Z3.out 3)
          | skip
          clear hf3 hr3 hb3))
     all_goals clear HK HBA HBB HDO
     all_goals first
     | (have HM := Lib.hid (mids_set (U := U) (r1 := r1) (r3 := r3) (r4 := r4) (b4 := wr.heap.size) Z3.out HB3.out HR3.out HUL.out (Nat.le_refl _) (by simp))
        generalize (((w3.setCell ⟨wr.heap.size, 0, none⟩ (.int .i64 r1)).setCell ⟨wr.heap.size, 1, none⟩ (.slice a3 R3.length c3)).setCell ⟨wr.heap.size, 2, none⟩ (.int .i64 r3)).setCell ⟨wr.heap.size, 3, none⟩ (.bool r4) = W4 at HM ⊢
        generalize hb4 : wr.heap.size = b4 at HM ⊢
        clear hb4)
     | (have HM := Lib.hid (mids_late (U := U) (r1 := r1) (r3 := r3) (r4 := r4) HB3.out HR3.out (by first | exact Nat.le_refl _ | simp))
        generalize w3.alloc (.cells #[.int .i64 r1, .slice a3 R3.length c3, .int .i64 r3, .bool r4] 32) = W4 at HM ⊢
        generalize w3.heap.size = b4 at HM ⊢)
     all_goals
       have HX4 := Lib.hid ((HM.out.bel.block _ (lt_of_heap HS.out.box)).trans HS.out.box)
       have HZ4 := Lib.hid ((HM.out.bel.block _ (lt_of_heap HS.out.res)).trans HS.out.res)
       have HB4 := Lib.hid (HS.out.bel.trans (HM.out.bel.mono HS.out.bel.size))
       have hb4 := HM.out.beh
       have hsub := HS.out.sub
       obtain ⟨y0, y1, y2, y3⟩ := cells4 HM.out.blk
       obtain ⟨x0, x1, x2, x3⟩ := cells4 HX4.out
       have g0 := freeAt HX4.out 0
       have g1 := freeAt HX4.out 1
       have g2 := freeAt HX4.out 2
       have g3 := freeAt HX4.out 3
       go_upto_region 6 with fail
       have HX5 : Hid (((((W4.setCell ⟨w.heap.size, 0, none⟩ (.int .i64 r1)).setCell ⟨w.heap.size, 1, none⟩ (.slice a3 R3.length c3)).setCell ⟨w.heap.size, 2, none⟩ (.int .i64 r3)).setCell ⟨w.heap.size, 3, none⟩ (.bool r4)).heap[w.heap.size]? = some (.cells #[.int .i64 r1, .slice a3 R3.length c3, .int .i64 r3, .bool r4] 32 (0, 0))) := heap_store (heap_store (heap_store (heap_store HX4.out 0 _) 1 _) 2 _) 3 _
       have hn1 : w.heap.size + 1 ≠ w.heap.size := by omega
       have HZ5 : Hid (((((W4.setCell ⟨w.heap.size, 0, none⟩ (.int .i64 r1)).setCell ⟨w.heap.size, 1, none⟩ (.slice a3 R3.length c3)).setCell ⟨w.heap.size, 2, none⟩ (.int .i64 r3)).setCell ⟨w.heap.size, 3, none⟩ (.bool r4)).heap[w.heap.size + 1]? = _) := (Below.heap_setCell _ ⟨w.heap.size, 3, none⟩ _ _ hn1).trans ((Below.heap_setCell _ ⟨w.heap.size, 2, none⟩ _ _ hn1).trans ((Below.heap_setCell _ ⟨w.heap.size, 1, none⟩ _ _ hn1).trans ((Below.heap_setCell _ ⟨w.heap.size, 0, none⟩ _ _ hn1).trans HZ4.out)))
       have HB5 : Hid (Below w.heap.size w ((((W4.setCell ⟨w.heap.size, 0, none⟩ (.int .i64 r1)).setCell ⟨w.heap.size, 1, none⟩ (.slice a3 R3.length c3)).setCell ⟨w.heap.size, 2, none⟩ (.int .i64 r3)).setCell ⟨w.heap.size, 3, none⟩ (.bool r4))) := (((HB4.out.setCell (p := ⟨w.heap.size, 0, none⟩) (Nat.le_refl _) _).setCell (p := ⟨w.heap.size, 1, none⟩) (Nat.le_refl _) _).setCell (p := ⟨w.heap.size, 2, none⟩) (Nat.le_refl _) _).setCell (p := ⟨w.heap.size, 3, none⟩) (Nat.le_refl _) _
       have hno : ¬ ((U w.heap.size ∨ wr.heap.size ≤ w.heap.size) ∧ w.heap.size ≠ b4) := by rintro ⟨h | h, -⟩; exact HUN.out.1 h; omega
       have HR5 : Hid (RLi ((((W4.setCell ⟨w.heap.size, 0, none⟩ (.int .i64 r1)).setCell ⟨w.heap.size, 1, none⟩ (.slice a3 R3.length c3)).setCell ⟨w.heap.size, 2, none⟩ (.int .i64 r3)).setCell ⟨w.heap.size, 3, none⟩ (.bool r4)) (.slice a3 R3.length c3) R3 (fun k => (U k ∨ wr.heap.size ≤ k) ∧ k ≠ b4)) := (((HM.out.lst.store (p := ⟨w.heap.size, 0, none⟩) hno _).store (p := ⟨w.heap.size, 1, none⟩) hno _).store (p := ⟨w.heap.size, 2, none⟩) hno _).store (p := ⟨w.heap.size, 3, none⟩) hno _
       clear x0 x1 x2 x3 y0 y1 y2 y3 g0 g1 g2 g3 HX4 HZ4 HB4 HM hno
       generalize ((((W4.setCell ⟨w.heap.size, 0, none⟩ (.int .i64 r1)).setCell ⟨w.heap.size, 1, none⟩ (.slice a3 R3.length c3)).setCell ⟨w.heap.size, 2, none⟩ (.int .i64 r3)).setCell ⟨w.heap.size, 3, none⟩ (.bool r4)) = W5 at *
       have HF : Hid (R3.map RF.f = r2) := HF3.out
       by_cases hr5 : r5 = 0
       · subst hr5
         have HI5 : Hid (StI w W5 T r1 a3 c3 R3 r3 r4) := ⟨HX5.out, HZ5.out, HR5.out.tight.mono (fun k hk => ⟨by
           rcases hk.1.1 with h | h
           · exact HUT.out k h
           · exact .inr (by omega), hk.2⟩), HB5.out⟩
         have HR6 : Hid (rr = stepsG doR ⟨r1, R3.map RF.f, r3, r4⟩ ((P.drop (k + 1)).map RO.o)) := by rw [Hid, HRN.out, seqG, if_neg (by simp), HF.out]
         have HB6 : Hid (BR ⟨r1, R3.map RF.f, r3, r4⟩ (s + bytsO (P.take (k + 1))) (n + (k + 1))) := by rw [Hid, HF.out, ← Nat.add_assoc]; exact HBN.out
         clear HX5 HZ5 HR5 HB5 hn1
         go_wp2
         go_roundw
         case rel => exact ⟨k + 1, r1, r3, r4, a3, c3, R3, by omega, by go_num, HI5, HR6, HB6⟩
         case measure => simp [RowKit.intOf]; omega
       · have hb5 : (r5 == 0) = false := by simpa using hr5
         have hb6 : (r5 != 0) = true := by simpa using hr5
         obtain ⟨x0, x1, x2, x3⟩ := cells4 HX5.out
         obtain ⟨z0, z1, z2, z3⟩ := cells4 HZ5.out
         have g0 := freeAt HZ5.out 0
         have g1 := freeAt HZ5.out 1
         have g2 := freeAt HZ5.out 2
         have g3 := freeAt HZ5.out 3
         have hnz : ¬ ((U (w.heap.size + 1) ∨ wr.heap.size ≤ w.heap.size + 1) ∧ w.heap.size + 1 ≠ b4) := by rintro ⟨h | h, -⟩; exact HUN.out.2 h; omega
         have HNZ := Lib.hid hnz
         have HTT : Hid (∀ k, ((U k ∨ wr.heap.size ≤ k) ∧ k ≠ b4) → T k ∨ w.heap.size ≤ k) := fun k hk => by
           rcases hk.1 with h | h
           · rcases HUT.out k h with h2 | h2
             · exact .inl h2.1
             · exact .inr (by omega)
           · exact .inr (by omega)
         have HE : Hid (rr = (⟨r1, R3.map RF.f, r3, r4⟩, r5)) := by rw [Hid, HRN.out, seqG, if_pos hr5, HF.out]
         clear hnz
         go_wp2
         try simp only [Exit.inBlock, Exit.then]
         rw [HQ.out]
         exact rdisk_end Tryz.results71 (b1 := w.heap.size + 1) (room := r1) (plan := r3) (down := r4) r5 HZ5.out (by omega) HB5.out HR5.out HTT.out HNZ.out HE.out rfl rfl
   · obtain rfl : k = P.length := by omega
     have HE : Hid (rr = (⟨rm, R1.map RF.f, pl, dn⟩, 0)) := by rw [Hid, HR1.out, List.drop_length]; rfl
     obtain ⟨x0, x1, x2, x3⟩ := cells4 HS.out.box
     obtain ⟨z0, z1, z2, z3⟩ := cells4 HS.out.res
     have g0 := freeAt HS.out.res 0
     have g1 := freeAt HS.out.res 1
     have g2 := freeAt HS.out.res 2
     have g3 := freeAt HS.out.res 3
     go_wp2
     try simp only [Exit.inBlock, Exit.then]
     rw [HQ.out]
     exact rdisk_end Tryz.results71 (b1 := w.heap.size + 1) (room := rm) (plan := pl) (down := dn) 0 HS.out.res (by omega) HS.out.bel HS.out.lst (fun k hk => by rcases hk.1 with h | h; exact .inl h.1; exact .inr (by omega)) (by rintro ⟨h | h, -⟩ <;> omega) HE.out rfl rfl
end Go.Proofs.YtgdmdbdljmlkkaaGreatDoor
