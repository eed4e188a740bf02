/- SegRefNumber, SegListRef, SegList, Recs, RefMake -/
import Derived.Test.YtgdmdbdljmlkkaaGreatDoorTz19
import Derived.Test.YtgdmdbdljmlkkaaGreatDoorTz18
import Derived.Sort.OwnSortedInts
set_option maxRecDepth 100000
set_option linter.unusedVariables false
set_option linter.unusedSimpArgs false
namespace Go.Proofs.YtgdmdbdljmlkkaaGreatDoor
open Go.RowKit Go.Lib
theorem long_bad (l : List UInt8) (h : l.length ≠ 12) : goodB l = false := by
 simp [goodB, h]
theorem digit_bad (l : List UInt8) (k : Nat) (c : UInt8) (h : (l.drop 4).take (k + 1) = (l.drop 4).take k ++ [c]) (hc : isD c = false) : goodB l = false := by
 have := all_false h hc
 simp [goodB, this]
theorem good_by_name (l : List UInt8) (_h12 : l.length = 12) (_hd : (l.drop 4).all isD = true) (hne : nameL (val (l.drop 4)) ≠ l) : goodB l = false := by
 cases hg : goodB l with
 | false => rfl
 | true => exact absurd (name_of_good l hg) hne
theorem good_of_name (l : List UInt8) (_h12 : l.length = 12) (_hd : (l.drop 4).all isD = true) (he : nameL (val (l.drop 4)) = l) : goodB l = true := by
 rw [← he]; exact good_name _
theorem out_good (l : List UInt8) (h : goodB l = true) (hp : 0 < val (l.drop 4)) : numOut l = .tuple #[.int .i64 (val (l.drop 4)), .bool true] := by
 unfold numOut numV
 rw [if_pos h]
 simp [hp]
theorem out_zero (l : List UInt8) (h : val (l.drop 4) = 0) : numOut l = .tuple #[.int .i64 0, .bool false] := by
 unfold numOut numV
 split <;> simp_all
set_option maxHeartbeats 1000000 in
theorem refNumber_any (s : ByteArray) (w : World) :
   Calls Tryz.prog 119 #[.string s] w fun e w' => e = .returned (numOut s.data.toList) ∧ w = w' := by
 by_cases h12 : s.size = 12
 · have HL : Hid (s.data.toList.length = 12) := by rw [Hid, ← Lib.size_eq]; exact h12
   have hle : s.size ≤ 12 := by omega
   have hge : 12 ≤ s.size := by omega
   have h12' : ((s.size : Int) != 12) = false := by rw [bne_eq_false_iff_eq]; omega
   obtain ⟨l, hl⟩ : ∃ l, l = s.data.toList := ⟨_, rfl⟩
   rw [← hl] at HL ⊢
   have HD := Lib.hid (digit_bad l)
   have HB := Lib.hid (bad_out l)
   have HN := Lib.hid (good_by_name l HL.out)
   have HM := Lib.hid (good_of_name l HL.out)
   have HO := Lib.hid (out_good l)
   have HZ := Lib.hid (out_zero l)
   generalize goodB l = good at *
   generalize numOut l = out at *
   obtain ⟨d, hd⟩ : ∃ d, d = l.drop 4 := ⟨_, rfl⟩
   rw [← hd] at HD HN HM HO HZ
   have HDL : Hid (d.length = 8) := by rw [Hid, hd, List.length_drop, HL.out]
   have HE := Lib.hid hd
   have HS := Lib.hid hl
   clear hd hl h12
   go_enter Tryz.func119, Tryz.ntmps119
   go_wp2
   go_loop [4, 5] (fun n i => ∃ k v : Nat, k ≤ 8 ∧ i = .int .i64 ((k + 4 : Nat) : Int) ∧ v < 10 ^ 8 ∧ n = .int .i64 (v : Int) ∧ Hid (v = val (d.take k) ∧ (d.take k).all isD = true)) (fun _ i => 12 - (RowKit.intOf i).toNat)
   case atStart => exact ⟨0, 0, by omega, rfl, by omega, rfl, rfl, rfl⟩
   case round =>
     obtain ⟨k, v, hk, rfl, hv, rfl, Hv⟩ := hrel
     by_cases hlt : k < 8
     · obtain ⟨j, hj⟩ : ∃ j, j = k + 4 := ⟨_, rfl⟩
       have hpos : j < s.size := by omega
       obtain ⟨c, hc⟩ : ∃ c : UInt8, c = s[j] := ⟨_, rfl⟩
       have Hstep : Hid (d.take (k + 1) = d.take k ++ [c]) := by
         rw [Hid, List.take_succ_eq_append_getElem (by rw [HDL.out]; exact hlt), hc]
         simp only [HE.out, HS.out, List.getElem_drop, hj, Nat.add_comm k 4]; rfl
       rw [← hj]
       have Hj := Lib.hid hj
       have hc' := hc.symm
       have hj12 : j < 12 := by omega
       clear hj hc
       by_cases h48 : c.toNat < 48
       · have hcd : isD c = false := by simp [isD]; omega
         have H := Lib.hid (HB.out (HD.out _ _ Hstep.out hcd))
         clear hcd
         go_wp2
         go_ret2
         exact ⟨congrArg Ending.returned H.out.symm, rfl⟩
       · by_cases h57 : 57 < c.toNat
         · have hcd : isD c = false := by simp [isD]; omega
           have H := Lib.hid (HB.out (HD.out _ _ Hstep.out hcd))
           clear hcd
           go_wp2
           go_ret2
           exact ⟨congrArg Ending.returned H.out.symm, rfl⟩
         · have hcd : isD c = true := by simp [isD]; omega
           have hall : (d.take (k + 1)).all isD = true := by rw [Hstep.out, List.all_append, Hv.out.2]; simp [hcd]
           have hval : val (d.take (k + 1)) = 10 * v + (c.toNat - 48) := by rw [Hstep.out, val_snoc, ← Hv.out.1]
           have hbd := val_bound (k + 1) (d.take (k + 1)) (by rw [List.length_take, HDL.out]; omega) hall
           have hpow : 10 ^ (k + 1) ≤ 10 ^ 8 := Nat.pow_le_pow_right (by decide) (by omega)
           have hnew : 10 * v + (c.toNat - 48) < 10 ^ 8 := by rw [← hval]; omega
           have HN' := Lib.hid (And.intro hval.symm hall)
           clear hcd hall hval hbd hpow
           go_wp2
           go_round
           case rel => exact ⟨k + 1, 10 * v + (c.toNat - 48), by omega, by rw [Hj.out]; go_num, hnew, by go_num, HN'.out⟩
           case measure => simp [RowKit.intOf]; omega
     · obtain rfl : k = 8 := by omega
       have ht : d.take 8 = d := List.take_of_length_le (by rw [HDL.out]; omega)
       have hv2 := Hv.out
       rw [ht] at hv2
       obtain ⟨hve, hall⟩ := hv2
       rw [← hve] at HN HM HO HZ
       have HALL := Lib.hid hall
       clear hve hall ht Hv
       by_cases hv0 : v = 0
       · have H := Lib.hid (HZ.out hv0)
         subst hv0
         go_wp2_with fail
         refine (refName_no ((0 : Nat) : Int) w (by left; decide)).mono ?_
         rintro e w1 ⟨rfl, rfl⟩
         go_wp2
         go_ret2
         exact ⟨congrArg Ending.returned H.out.symm, rfl⟩
       · go_wp2_with fail
         refine (refName_yes v w (by omega) (by omega)).mono ?_
         rintro e w1 ⟨rfl, rfl⟩
         by_cases hne : nameL v = l
         · have H := Lib.hid (HO.out (HM.out HALL.out hne) (by omega))
           have hq : (!nameL v == s.toList) = false := by rw [Lib.toList_data, ← HS.out, hne]; simp
           clear hne
           go_wp2
           go_ret2
           exact ⟨congrArg Ending.returned H.out.symm, rfl⟩
         · have H := Lib.hid (HB.out (HN.out HALL.out hne))
           have hq : (!nameL v == s.toList) = true := by rw [Lib.toList_data, ← HS.out]; simp [hne]
           clear hne
           go_wp2
           go_ret2
           exact ⟨congrArg Ending.returned H.out.symm, rfl⟩
 · have H := Lib.hid (bad_out _ (long_bad s.data.toList (by rw [← Lib.size_eq]; exact h12)))
   have h12' : ((s.size : Int) != 12) = true := by rw [bne_iff_ne]; omega
   clear h12
   go_enter Tryz.func119, Tryz.ntmps119
   go_wp2
   go_ret2
   exact ⟨congrArg Ending.returned H.out.symm, rfl⟩
abbrev ints (l : List Int) : List Value := l.map (Value.int .i64)
theorem ints_one (l : List Int) : ∀ u ∈ ints l, u.oneCell' = true := ints_oneCell _ _
theorem ints_take (l : List Int) (j : Nat) : ints (l.take j) = (ints l).take j := List.map_take
theorem ints_drop (l : List Int) (j : Nat) : ints (l.drop j) = (ints l).drop j := List.map_drop
theorem elemInt : ElemOf Tryz.prog 40 3 (.int .i64 0) 1 8 := ⟨Tryz.underlying40, by kernel_rfl, rfl, by decide⟩
def hasB (l : List Int) (n : Int) : Bool := l.contains n
set_option maxHeartbeats 1000000 in
theorem has_any (v : Value) (l : List Int) (n : Int) (w : World) (hr : Reads w v l.length 1 (ints l)) (hs : l.length ≤ 9223372036854775807) :
   Calls Tryz.prog 124 #[v, .int .i64 n] w fun e w' => e = .returned (.bool (hasB l n)) ∧ w = w' := by
 have Hr := Lib.hid hr
 obtain ⟨-, ao, c, rfl, -, -, -⟩ := hr
 go_enter Tryz.func124, Tryz.ntmps124
 go_wp2
 go_loop [5] (fun i => ∃ k : Nat, k ≤ l.length ∧ i = .int .i64 k ∧ Hid (hasB l n = (l.drop k).contains n)) (fun i => l.length - (RowKit.intOf i).toNat)
 case atStart => exact ⟨0, by omega, rfl, rfl⟩
 case round =>
   obtain ⟨k, hk, rfl, Hk⟩ := hrel
   by_cases hlt : k < l.length
   · obtain ⟨b, o, c', hv, hnc, _, hc⟩ := Hr.out.at (by omega)
     cases hv
     have hcell : w.cell? ⟨b, o + k, none⟩ = some (.int .i64 (l[k])) := hc k _ (by simp [hlt])
     have hd : l.drop k = l[k] :: l.drop (k + 1) := List.drop_eq_getElem_cons hlt
     have HD := Lib.hid hd
     clear hd hc
     generalize l[k] = x at *
     by_cases hx : x = n
     · subst hx
       have H : Hid (hasB l x = true) := by rw [Hid, Hk.out, HD.out]; simp
       go_wp2
       go_ret
       exact ⟨congrArg (fun b => Ending.returned (.bool b)) H.out.symm, rfl⟩
     · have hne : (x == n) = false := by simpa using hx
       have H : Hid (hasB l n = (l.drop (k + 1)).contains n) := by
         rw [Hid, Hk.out, HD.out, List.contains_cons]
         have : (n == x) = false := by simpa using fun e => hx (Eq.symm e)
         rw [this]; rfl
       go_wp2
       go_round
       case rel => exact ⟨k + 1, by omega, by go_num, H⟩
       case measure => simp [RowKit.intOf]; omega
   · obtain rfl : k = l.length := by omega
     have H : Hid (hasB l n = false) := by rw [Hid, Hk.out]; simp
     go_wp2
     go_ret
     exact ⟨congrArg (fun b => Ending.returned (.bool b)) H.out.symm, rfl⟩
theorem owns_mono {w : World} {base base' : Nat} {e : TypeId} {size : Nat} {v : Value} {n : Nat} {xs : List Value} (h : w.ownsRow base e size v n xs) (hb : base' ≤ base) : w.ownsRow base' e size v n xs := by
 refine ⟨h.1, ?_⟩
 rcases h.2 with h2 | ⟨g, cap, cur, hv, hg, r⟩
 · exact .inl h2
 · exact .inr ⟨g, cap, cur, hv, Nat.le_trans hb hg, r⟩
theorem take_snoc {α : Type} (l : List α) (k : Nat) (h : k < l.length) : l.take (k + 1) = l.take k ++ [l[k]] := List.take_succ_eq_append_getElem h
abbrev strsV (ss : List ByteArray) : List Value := ss.map Value.string
set_option maxHeartbeats 2000000 in
theorem refList_any (v : Value) (ss : List ByteArray) (w : World) (hr : Reads w v ss.length 1 (strsV ss)) (hs : ss.length ≤ 1000) :
   Calls Tryz.prog 67 #[v] w fun e w' => ∃ v', e = .returned v' ∧ w'.ownsRow w.heap.size 3 1 v' (refL ss).length (ints (refL ss)) ∧ Below w.heap.size w w' := by
 have Hr := Lib.hid hr
 obtain ⟨-, ao, c, rfl, -, -, -⟩ := hr
 go_enter Tryz.func67, Tryz.ntmps67
 go_wp2
 go_loopw [3, 4] (fun out i w' => ∃ k : Nat, k ≤ ss.length ∧ i = .int .i64 k ∧ w'.ownsRow w.heap.size 3 1 out (refL (ss.take k)).length (ints (refL (ss.take k))) ∧ Below w.heap.size w w') (fun _ i _ => ss.length - (RowKit.intOf i).toNat)
 case atStart => exact ⟨0, by omega, rfl, World.ownsRow_nil _ _ _ _, Below.refl _ _⟩
 case round =>
   obtain ⟨k, hk, rfl, hown, hbel⟩ := hrel
   by_cases hlt : k < ss.length
   · obtain ⟨b, o, c', hv, hnc, _, hc⟩ := (Hr.out.later hbel).at (by omega)
     cases hv
     have hcell : wr.cell? ⟨b, o + k, none⟩ = some (.string (ss[k])) := hc k _ (by simp [hlt])
     have hsn := refL_snoc (ss.take k) ss[k]
     rw [← take_snoc ss k hlt] at hsn
     have HS := Lib.hid hsn
     have hlen := refL_length (ss.take k)
     have hlt60 : (ss.take k).length ≤ k := by rw [List.length_take]; omega
     clear hsn hc
     generalize ss[k] = s at *
     obtain ⟨l', hl'⟩ : ∃ l', l' = refL (ss.take (k + 1)) := ⟨_, rfl⟩
     rw [← hl'] at HS
     have HL' := Lib.hid hl'
     clear hl'
     generalize refL (ss.take k) = l at *
     have hl60 : l.length ≤ 1000 := by omega
     have HOWN := Lib.hid hown
     clear hlt60 hlen hown
     have hnum := refNumber_any s
     unfold numOut at hnum
     have hnv := numV_le s.data.toList
     generalize numV s.data.toList = n at *
     have HNUM := Lib.hid hnum
     clear hnum
     by_cases h0 : 0 < n
     · rw [decide_eq_true h0] at HNUM
       have HS' : Hid (l' = ins l n) := by rw [Hid, HS.out, if_pos h0]
       clear HS
       go_wp2_with fail
       refine (HNUM.out _).mono ?_
       rintro e w1 ⟨rfl, rfl⟩
       go_wp2_with fail
       refine (has_any _ l n wr (reads_of_owns HOWN.out) (by omega)).mono ?_
       rintro e w1 ⟨rfl, rfl⟩
       obtain ⟨hb, hhb⟩ : ∃ hb, hb = hasB l n := ⟨_, rfl⟩
       simp only
       rw [← hhb]
       cases hb with
       | true =>
         have HI : Hid (l' = l) := by rw [Hid, HS'.out, ins]; rw [hasB] at hhb; rw [if_pos hhb.symm]
         clear hhb
         go_wp2
         go_roundw
         case rel => exact ⟨k + 1, by omega, by go_num, by rw [← HL'.out, HI.out]; exact HOWN.out, hbel⟩
         case measure => simp [RowKit.intOf]; omega
       | false =>
         have HI : Hid (l' = l.take (insAt l n) ++ [(n : Int)] ++ l.drop (insAt l n)) := by rw [Hid, HS'.out, ins]; rw [hasB] at hhb; rw [if_neg (by rw [← hhb]; simp)]
         have hjl := insAt_le l n
         have HLT := Lib.hid (insAt_lt l n)
         have HST := Lib.hid (insAt_stop l n)
         generalize insAt l (n : Int) = p at *
         clear hhb
         rcases HOWN.out.2 with ⟨rfl, hn0⟩ | ⟨g, cap, cur, rfl, hbg, hg, hncap, hcm, hcs, htk⟩
         · obtain rfl : l = [] := List.eq_nil_of_length_eq_zero hn0
           obtain rfl : p = 0 := by simpa using hjl
           have HF := Lib.hid (show w.heap.size ≤ wr.heap.size from hbel.size)
           have HBW := Lib.hid (show Below w.heap.size w wr from hbel)
           clear hn0 hbel hcell hjl
           go_wp2
           go_loop [7] (fun i => i = .int .i64 0) (fun _ => 0)
           case atStart => rfl
           case round =>
             subst hrel
             go_wp2
             have tok1 : True := trivial
             have tok2 : True := trivial
             have tok3 : True := trivial
             go_region_law (first
               | (have _t := tok1; refine step_app elemInt (base := wr.heap.size) (v := .slice (some ⟨_, 0, none⟩) 0 0) (n := 0) (xs := []) (y := .slice none 0 0) rfl rfl rfl (by first | exact (owns_empty _ _ _ _ (by first | (simp; done) | (simp; omega)) (by simp)).drew | exact ((owns_empty _ _ _ _ (by first | (simp; done) | (simp; omega)) (by simp)).alloc _).drew) rfl (m := 0) (news := []) (Reads.nil _ _) (fun _ h => by cases h) (by unfold maxLen; omega) (by omega) (by first | (simp; done) | (simp; omega)) ?_; intro v1 w1 hown1 hgr1; have hb1 : Below wr.heap.size wr w1 := (by first | exact ((Below.refl _ _).alloc (Nat.le_refl _) _).drew.grown hgr1 (by first | (simp; done) | (simp; omega)) (by intro k hk; simp [Value.ownBlock] at hk; omega) | exact (((Below.refl _ _).alloc (Nat.le_refl _) _).alloc (by first | (simp; done) | (simp; omega)) _).drew.grown hgr1 (by first | (simp; done) | (simp; omega)) (by intro k hk; simp [Value.ownBlock] at hk; omega)); clear tok1)
               | (have _t := tok2; refine step_app elemInt (base := wr.heap.size) (v := v1) (y := .slice (some ⟨_, 0, none⟩) 1 1) (n := 0 + 0) (xs := [] ++ []) rfl rfl rfl (by first | exact hown1 | exact hown1.alloc _) rfl (m := 1) (news := [.int .i64 n]) (by first | exact reads_cell (by simp) | exact reads_cell (hgr1.cell (by simp) (by simp [Value.ownBlock]))) (one_of rfl) (by unfold maxLen; omega) (by omega) (by first | exact hb1.size | (simp; have := hb1.size; omega)) ?_; intro v2 w2 hown2 hgr2; have hb2 : Below wr.heap.size wr w2 := (by first | exact hb1.grown hgr2 hb1.size (fun k hk => (hown1.lt k hk).1) | exact (hb1.alloc hb1.size _).grown hgr2 (by simp; have := hb1.size; omega) (fun k hk => (hown1.lt k hk).1)); clear tok2)
               | (have _t := tok3; refine step_app elemInt (base := wr.heap.size) (v := v2) (y := .slice none 0 0) (n := 0 + 0 + 1) (xs := [] ++ [] ++ [.int .i64 n]) rfl rfl rfl hown2 rfl (m := 0) (news := []) (Reads.nil _ _) (fun _ h => by cases h) (by unfold maxLen; omega) (by omega) hb2.size ?_; intro v3 w3 hown3 hgr3; have hb3 : Below wr.heap.size wr w3 := hb2.grown hgr3 hb2.size (fun k hk => (hown2.lt k hk).1); clear tok3))
             all_goals
               have HFIN : Hid (w3.ownsRow w.heap.size 3 1 v3 l'.length (ints l')) := by
                 have e : ints l' = [] ++ [] ++ [.int .i64 n] ++ [] := by rw [HI.out]; simp
                 have e2 : l'.length = 0 + 0 + 1 + 0 := by rw [HI.out]; simp
                 rw [Hid, e, e2]
                 exact owns_mono hown3 HF.out
               have HB3 := Lib.hid (HBW.out.trans (hb3.mono HF.out))
               clear hown1 hown2 hown3 hgr1 hgr2 hgr3 hb1 hb2 hb3
               go_wp2
               go_roundw
               case rel => exact ⟨k + 1, by omega, by go_num, by rw [← HL'.out]; exact HFIN.out, HB3.out⟩
               case measure => simp [RowKit.intOf]; omega
         · have hcellL : ∀ j (hj : j < l.length), wr.cell? ⟨g, j, none⟩ = some (.int .i64 l[j]) := fun j hj => by
             have := HOWN.out.cells (g := g) rfl j (.int .i64 l[j]) (by simp [hj])
             simpa [Addr.add_lit] using this
           have HC := Lib.hid hcellL
           clear hcellL hg hcs htk
           go_wp2
           go_loop [7] (fun i => ∃ j : Nat, j ≤ p ∧ i = .int .i64 j) (fun i => p - (RowKit.intOf i).toNat)
           case atStart => exact ⟨0, by omega, rfl⟩
           case round =>
             obtain ⟨j, hj, rfl⟩ := hrel
             by_cases hjp : j < p
             · have hjl2 : j < l.length := by omega
               have hcj := HC.out j hjl2
               have hltj := HLT.out j hjp hjl2
               generalize l[j] = x at *
               go_wp2
               go_round
               case rel => exact ⟨j + 1, by omega, by go_num⟩
               case measure => simp [RowKit.intOf]; omega
             · obtain rfl : j = p := by omega
               by_cases hjl2 : j < l.length
               · have hcj := HC.out j hjl2
                 have hltj := HST.out hjl2
                 generalize l[j] = x at *
                 have hjc : j ≤ cap := by omega
                 have HF := Lib.hid (show w.heap.size ≤ wr.heap.size from hbel.size)
                 have HRW := Lib.hid (show Reads wr (.slice (some ⟨g, 0, none⟩) l.length cap) l.length 1 (ints l) from reads_of_owns HOWN.out)
                 have HGW := Lib.hid (show ∀ k, (Value.slice (some ⟨g, 0, none⟩) l.length cap).ownBlock = some k → k < wr.heap.size from fun k hk => (HOWN.out.lt k hk).2)
                 have HBW := Lib.hid (show Below w.heap.size w wr from hbel)
                 clear hbel hcell hbg hncap hcm
                 go_wp2
                 have tok1 : True := trivial
                 have tok2 : True := trivial
                 have tok3 : True := trivial
                 go_region_law (first
                   | (have _t := tok1; refine step_app elemInt (base := wr.heap.size) (v := .slice (some ⟨_, 0, none⟩) 0 0) (n := 0) (xs := []) (y := .slice (some ⟨g, 0, none⟩) j cap) rfl rfl rfl (by first | exact (owns_empty _ _ _ _ (by first | (simp; done) | (simp; omega)) (by simp)).drew | exact ((owns_empty _ _ _ _ (by first | (simp; done) | (simp; omega)) (by simp)).alloc _).drew) rfl (m := j) (news := ints (l.take j)) (by rw [ints_take]; exact (HRW.out.below (by first | exact ((Below.refl _ _).alloc (Nat.le_refl _) _).drew | exact (((Below.refl _ _).alloc (Nat.le_refl _) _).alloc (by first | (simp; done) | (simp; omega)) _).drew) HGW.out).take j hjl) (ints_one _) (by unfold maxLen; omega) (by omega) (by first | (simp; done) | (simp; omega)) ?_; intro v1 w1 hown1 hgr1; have hb1 : Below wr.heap.size wr w1 := (by first | exact ((Below.refl _ _).alloc (Nat.le_refl _) _).drew.grown hgr1 (by first | (simp; done) | (simp; omega)) (by intro k hk; simp [Value.ownBlock] at hk; omega) | exact (((Below.refl _ _).alloc (Nat.le_refl _) _).alloc (by first | (simp; done) | (simp; omega)) _).drew.grown hgr1 (by first | (simp; done) | (simp; omega)) (by intro k hk; simp [Value.ownBlock] at hk; omega)); clear tok1)
                   | (have _t := tok2; refine step_app elemInt (base := wr.heap.size) (v := v1) (y := .slice (some ⟨_, 0, none⟩) 1 1) (n := 0 + j) (xs := [] ++ ints (l.take j)) rfl rfl rfl (by first | exact hown1 | exact hown1.alloc _) rfl (m := 1) (news := [.int .i64 n]) (by first | exact reads_cell (by simp) | exact reads_cell (hgr1.cell (by simp) (by simp [Value.ownBlock]))) (one_of rfl) (by unfold maxLen; omega) (by omega) (by first | exact hb1.size | (simp; have := hb1.size; omega)) ?_; intro v2 w2 hown2 hgr2; have hb2 : Below wr.heap.size wr w2 := (by first | exact hb1.grown hgr2 hb1.size (fun k hk => (hown1.lt k hk).1) | exact (hb1.alloc hb1.size _).grown hgr2 (by simp; have := hb1.size; omega) (fun k hk => (hown1.lt k hk).1)); clear tok2)
                   | (have _t := tok3; refine step_app elemInt (base := wr.heap.size) (v := v2) (y := .slice _ (l.length - j) (cap - j)) (n := 0 + j + 1) (xs := [] ++ ints (l.take j) ++ [.int .i64 n]) rfl rfl rfl hown2 rfl (m := l.length - j) (news := ints (l.drop j)) (by rw [ints_drop]; exact Reads.drop (HRW.out.below hb2 HGW.out) j hjl _ (by intro h; simp [h]) (by first | (split <;> simp; done) | (simp; done))) (ints_one _) (by unfold maxLen; omega) (by omega) hb2.size ?_; intro v3 w3 hown3 hgr3; have hb3 : Below wr.heap.size wr w3 := hb2.grown hgr3 hb2.size (fun k hk => (hown2.lt k hk).1); clear tok3))
                 all_goals
                   have HFIN : Hid (w3.ownsRow w.heap.size 3 1 v3 l'.length (ints l')) := by
                     have e : ints l' = [] ++ ints (l.take j) ++ [.int .i64 n] ++ ints (l.drop j) := by rw [HI.out]; simp
                     have e2 : l'.length = 0 + j + 1 + (l.length - j) := by rw [HI.out]; simp; omega
                     rw [Hid, e, e2]
                     exact owns_mono hown3 HF.out
                   have HB3 := Lib.hid (HBW.out.trans (hb3.mono HF.out))
                   clear hown1 hown2 hown3 hgr1 hgr2 hgr3 hb1 hb2 hb3
                   go_wp2
                   go_roundw
                   case rel => exact ⟨k + 1, by omega, by go_num, by rw [← HL'.out]; exact HFIN.out, HB3.out⟩
                   case measure => simp [RowKit.intOf]; omega
               · have hjc : j ≤ cap := by omega
                 have HF := Lib.hid (show w.heap.size ≤ wr.heap.size from hbel.size)
                 have HRW := Lib.hid (show Reads wr (.slice (some ⟨g, 0, none⟩) l.length cap) l.length 1 (ints l) from reads_of_owns HOWN.out)
                 have HGW := Lib.hid (show ∀ k, (Value.slice (some ⟨g, 0, none⟩) l.length cap).ownBlock = some k → k < wr.heap.size from fun k hk => (HOWN.out.lt k hk).2)
                 have HBW := Lib.hid (show Below w.heap.size w wr from hbel)
                 clear hbel hcell hbg hncap hcm
                 go_wp2
                 have tok1 : True := trivial
                 have tok2 : True := trivial
                 have tok3 : True := trivial
                 go_region_law (first
                   | (have _t := tok1; refine step_app elemInt (base := wr.heap.size) (v := .slice (some ⟨_, 0, none⟩) 0 0) (n := 0) (xs := []) (y := .slice (some ⟨g, 0, none⟩) j cap) rfl rfl rfl (by first | exact (owns_empty _ _ _ _ (by first | (simp; done) | (simp; omega)) (by simp)).drew | exact ((owns_empty _ _ _ _ (by first | (simp; done) | (simp; omega)) (by simp)).alloc _).drew) rfl (m := j) (news := ints (l.take j)) (by rw [ints_take]; exact (HRW.out.below (by first | exact ((Below.refl _ _).alloc (Nat.le_refl _) _).drew | exact (((Below.refl _ _).alloc (Nat.le_refl _) _).alloc (by first | (simp; done) | (simp; omega)) _).drew) HGW.out).take j hjl) (ints_one _) (by unfold maxLen; omega) (by omega) (by first | (simp; done) | (simp; omega)) ?_; intro v1 w1 hown1 hgr1; have hb1 : Below wr.heap.size wr w1 := (by first | exact ((Below.refl _ _).alloc (Nat.le_refl _) _).drew.grown hgr1 (by first | (simp; done) | (simp; omega)) (by intro k hk; simp [Value.ownBlock] at hk; omega) | exact (((Below.refl _ _).alloc (Nat.le_refl _) _).alloc (by first | (simp; done) | (simp; omega)) _).drew.grown hgr1 (by first | (simp; done) | (simp; omega)) (by intro k hk; simp [Value.ownBlock] at hk; omega)); clear tok1)
                   | (have _t := tok2; refine step_app elemInt (base := wr.heap.size) (v := v1) (y := .slice (some ⟨_, 0, none⟩) 1 1) (n := 0 + j) (xs := [] ++ ints (l.take j)) rfl rfl rfl (by first | exact hown1 | exact hown1.alloc _) rfl (m := 1) (news := [.int .i64 n]) (by first | exact reads_cell (by simp) | exact reads_cell (hgr1.cell (by simp) (by simp [Value.ownBlock]))) (one_of rfl) (by unfold maxLen; omega) (by omega) (by first | exact hb1.size | (simp; have := hb1.size; omega)) ?_; intro v2 w2 hown2 hgr2; have hb2 : Below wr.heap.size wr w2 := (by first | exact hb1.grown hgr2 hb1.size (fun k hk => (hown1.lt k hk).1) | exact (hb1.alloc hb1.size _).grown hgr2 (by simp; have := hb1.size; omega) (fun k hk => (hown1.lt k hk).1)); clear tok2)
                   | (have _t := tok3; refine step_app elemInt (base := wr.heap.size) (v := v2) (y := .slice _ (l.length - j) (cap - j)) (n := 0 + j + 1) (xs := [] ++ ints (l.take j) ++ [.int .i64 n]) rfl rfl rfl hown2 rfl (m := l.length - j) (news := ints (l.drop j)) (by rw [ints_drop]; exact Reads.drop (HRW.out.below hb2 HGW.out) j hjl _ (by intro h; simp [h]) (by first | (split <;> simp; done) | (simp; done))) (ints_one _) (by unfold maxLen; omega) (by omega) hb2.size ?_; intro v3 w3 hown3 hgr3; have hb3 : Below wr.heap.size wr w3 := hb2.grown hgr3 hb2.size (fun k hk => (hown2.lt k hk).1); clear tok3))
                 all_goals
                   have HFIN : Hid (w3.ownsRow w.heap.size 3 1 v3 l'.length (ints l')) := by
                     have e : ints l' = [] ++ ints (l.take j) ++ [.int .i64 n] ++ ints (l.drop j) := by rw [HI.out]; simp
                     have e2 : l'.length = 0 + j + 1 + (l.length - j) := by rw [HI.out]; simp; omega
                     rw [Hid, e, e2]
                     exact owns_mono hown3 HF.out
                   have HB3 := Lib.hid (HBW.out.trans (hb3.mono HF.out))
                   clear hown1 hown2 hown3 hgr1 hgr2 hgr3 hb1 hb2 hb3
                   go_wp2
                   go_roundw
                   case rel => exact ⟨k + 1, by omega, by go_num, by rw [← HL'.out]; exact HFIN.out, HB3.out⟩
                   case measure => simp [RowKit.intOf]; omega
     · have hn0 : n = 0 := by omega
       subst hn0
       have HS' : Hid (l' = l) := by rw [Hid, HS.out, if_neg h0]
       rw [show decide (0 < 0) = false from rfl] at HNUM
       clear HS h0
       go_wp2_with fail
       refine (HNUM.out _).mono ?_
       rintro e w1 ⟨rfl, rfl⟩
       go_wp2
       go_roundw
       case rel => exact ⟨k + 1, by omega, by go_num, by rw [← HL'.out, HS'.out]; exact HOWN.out, hbel⟩
       case measure => simp [RowKit.intOf]; omega
   · obtain rfl : k = ss.length := by omega
     go_wp2
     go_ret
     rw [List.take_length] at hown
     exact ⟨_, rfl, hown, hbel⟩
theorem grow_none (w : World) : Sort.grow w #[] = w := by
 unfold Sort.grow; simp
end Go.Proofs.YtgdmdbdljmlkkaaGreatDoor
namespace Go.Proofs.YtgdmdbdljmlkkaaGreatDoor
open Go.RowKit
theorem refL_same {a b : List ByteArray} (h : ∀ x, x ∈ a ↔ x ∈ b) : refL a = refL b := by
 refine inc_ext (inc_refL a) (inc_refL b) (fun x => ?_)
 rw [mem_refL, mem_refL]
 unfold numsL
 simp only [List.mem_map, List.mem_filter, h]
theorem nodup_len {α : Type} [DecidableEq α] : ∀ {l L : List α}, l.Nodup → (∀ x ∈ l, x ∈ L) → l.length ≤ L.length
 | [], _, _, _ => Nat.zero_le _
 | a :: l, L, hn, hs => by
   obtain ⟨h1, h2⟩ := List.nodup_cons.1 hn
   have h3 := nodup_len (L := L.erase a) h2 (fun x hx => (List.mem_erase_of_ne (fun e => h1 (by rw [← e]; exact hx))).2 (hs x (by simp [hx])))
   have h4 := List.length_erase_of_mem (hs a (by simp))
   have h5 := List.length_pos_of_mem (hs a (by simp))
   rw [List.length_cons]; omega
abbrev mkS (ss : List (List UInt8)) : List ByteArray := ss.map fun s => ⟨s.toArray⟩
theorem mkS_V (ss : List (List UInt8)) : strsV (mkS ss) = ss.map Go.Proofs.encStr := by unfold strsV; rw [List.map_map]; rfl
theorem mkS_mem {ss : List (List UInt8)} {L : List ByteArray} (h : ∀ s : List UInt8, s ∈ ss ↔ ⟨s.toArray⟩ ∈ L) (x : ByteArray) : x ∈ mkS ss ↔ x ∈ L := by
 constructor
 · intro hx
   obtain ⟨s, hs, rfl⟩ := List.mem_map.1 hx
   exact (h s).1 hs
 · intro hx
   refine List.mem_map.2 ⟨x.data.toList, (h _).2 ?_, ?_⟩
   · have e : (⟨x.data.toList.toArray⟩ : ByteArray) = x := by simp
     rwa [e]
   · simp
theorem mkS_len {ss : List (List UInt8)} {L : List ByteArray} (hp : ss.Pairwise (· < ·)) (h : ∀ s : List UInt8, s ∈ ss ↔ ⟨s.toArray⟩ ∈ L) : ss.length ≤ L.length := by
 have hn : ss.Nodup := hp.imp (fun h e => by subst e; exact List.lt_irrefl _ h)
 have := nodup_len (l := ss) (L := L.map fun b => b.data.toList) hn (fun x hx => List.mem_map.2 ⟨_, (h x).1 hx, by simp⟩)
 simpa using this
theorem readD_len (D : DS) (n : ByteArray) : (readD D n).1.length ≤ sumD D.files := by
 unfold readD
 split
 · exact Nat.zero_le _
 · split
   · rename_i f hf
     exact len_le_sum (findD_name hf).2
   · exact Nat.zero_le _
set_option maxHeartbeats 1000000 in
theorem rfeed_any (x : W32) (c : UInt8) (w : World) :
   Calls Tryz.prog 235 #[.int .u32 x.toNat, .int .u8 c.toNat] w fun e w' => e = .returned (.int .u32 (feedB x c).toNat) ∧ w' = w := by
 obtain ⟨X, hX⟩ : ∃ X : W32, X = x ^^^ BitVec.ofNat 32 c.toNat := ⟨_, rfl⟩
 have hxb : bits .xor .u32 (x.toNat : Int) (c.toNat : Int) = (X.toNat : Int) := by rw [hX]; exact xor_byte x c
 have HF : Hid (feedB x c = shN 8 X) := by rw [hX]; rfl
 rw [HF.out]
 have hc := c.toNat_lt
 clear hX
 go_enter Tryz.func235, Tryz.ntmps235
 go_wp2
 go_loop [0, 5] (fun v i => ∃ k : Nat, k ≤ 8 ∧ i = .int .i64 k ∧ v = .int .u32 (shN k X).toNat) (fun _ i => 8 - (RowKit.intOf i).toNat)
 case atStart => exact ⟨0, by omega, rfl, rfl⟩
 case round =>
   obtain ⟨k, hk, rfl, rfl⟩ := hrel
   clear hxb
   have HS := Lib.hid (shN_succ k X)
   have hb := w32_bd (shN k X)
   have ho := odd32 (shN k X)
   by_cases hlt : k < 8
   · cases hbit : (shN k X).getLsbD 0 with
     | true =>
       rw [hbit] at ho
       simp only [if_true] at ho
       have HE := Lib.hid (sh1_odd _ hbit)
       clear hbit
       go_wp2
       go_round
       case rel => exact ⟨k + 1, by omega, by go_num, by rw [HS.out, ← HE.out]⟩
       case measure => simp [RowKit.intOf]; omega
     | false =>
       rw [hbit] at ho
       simp only [Bool.false_eq_true, if_false] at ho
       have HE := Lib.hid (sh1_even' _ hbit)
       clear hbit
       go_wp2
       go_round
       case rel => exact ⟨k + 1, by omega, by go_num, by rw [HS.out, ← HE.out]⟩
       case measure => simp [RowKit.intOf]; omega
   · obtain rfl : k = 8 := by omega
     clear ho
     go_wp2
     go_ret
     exact ⟨rfl, rfl⟩
set_option maxHeartbeats 1000000 in
theorem rmore_any (s : W32) (ba : Option Addr) (bc : Nat) (l : List UInt8) (w : World) (h : Reads w (.slice ba l.length bc) l.length 1 (byts l)) (hl : l.length ≤ 1000000000) :
   Calls Tryz.prog 207 #[.int .u32 s.toNat, .slice ba l.length bc] w fun e w' => e = .returned (.int .u32 (~~~ crcR (~~~ s) l).toNat) ∧ w' = w := by
 have HRT := Lib.hid h
 obtain ⟨s2, hs2⟩ : ∃ s2 : W32, s2 = ~~~ s := ⟨_, rfl⟩
 obtain ⟨E, hE⟩ : ∃ E : W32, E = ~~~ crcR s2 l := ⟨_, rfl⟩
 have hns : bits .xor .u32 IntKind.u32.max (s.toNat : Int) = (s2.toNat : Int) := by rw [hs2]; exact not32 s
 have hne : bits .xor .u32 IntKind.u32.max ((crcR s2 l).toNat : Int) = (E.toNat : Int) := by rw [hE]; exact not32 _
 rw [← hs2, ← hE]
 have HNE := Lib.hid hne
 clear h hs2 hE hne
 go_enter Tryz.func207, Tryz.ntmps207
 go_wp2_with fail
 clear hns
 go_loop [5, 6] (fun r i => ∃ k : Nat, k ≤ l.length ∧ i = .int .i64 k ∧ r = .int .u32 (crcR s2 (l.take k)).toNat) (fun _ i => l.length - (RowKit.intOf i).toNat)
 case atStart => exact ⟨0, by omega, rfl, rfl⟩
 case round =>
   obtain ⟨k, hk, rfl, rfl⟩ := hrel
   by_cases hlt : k < l.length
   · obtain ⟨b, o, c, he, hcap, hb, hcell⟩ := HRT.out.at (by omega)
     cases he
     have hc0 : w.cell? ⟨b, o + k, none⟩ = some (.int .u8 l[k].toNat) := by simpa using hcell k (.int .u8 l[k].toNat) (by simp [byts, u8v, hlt])
     clear hcell
     have HF := Lib.hid (take_getU hlt s2)
     generalize l[k] = x at *
     generalize crcR s2 (l.take k) = R at *
     go_wp2_with (go_at_call 235; refine (rfeed_any R x _).mono ?_; rintro e w' ⟨rfl, rfl⟩)
     go_round
     case rel => exact ⟨k + 1, by omega, by go_num, by rw [HF.out]⟩
     case measure => simp [RowKit.intOf]; omega
   · obtain rfl : k = l.length := by omega
     rw [List.take_length]
     have hn2 := HNE.out
     generalize crcR s2 l = R at *
     go_wp2
     go_ret
     exact ⟨rfl, rfl⟩
theorem rsum_any (ba : Option Addr) (bc : Nat) (l : List UInt8) (w : World) (h : Reads w (.slice ba l.length bc) l.length 1 (byts l)) (hl : l.length ≤ 1000000000) :
   Calls Tryz.prog 172 #[.slice ba l.length bc] w fun e w' => e = .returned (.int .u32 (crcB l).toNat) ∧ w' = w := by
 have HM : Hid (Calls Tryz.prog 207 #[.int .u32 0, .slice ba l.length bc] w fun e w' => e = .returned (.int .u32 (crcB l).toNat) ∧ w' = w) := rmore_any 0#32 ba bc l w h hl
 generalize crcB l = X at *
 clear h
 go_enter Tryz.func172, Tryz.ntmps172
 go_wp2_with fail
 refine HM.out.mono ?_
 rintro e w1 ⟨rfl, rfl⟩
 go_wp2
 go_ret
 exact ⟨rfl, rfl⟩
theorem mask32 (x : Int) (h0 : 0 ≤ x) (h1 : x < 4294967296) : bits .and .u32 x 255 = x % 256 := by
 obtain ⟨a, rfl⟩ := Int.eq_ofNat_of_zero_le h0
 have h2 := u32_and_nat a 255 (by omega) (by decide)
 rw [show ((255 : Nat) : Int) = 255 from rfl] at h2
 rw [h2, show (255 : Nat) = 2 ^ 8 - 1 from rfl, Nat.and_two_pow_sub_one_eq_mod]
 rfl
set_option maxHeartbeats 1000000 in
theorem rlittle_any (X : W32) (w : World) :
   Calls Tryz.prog 137 #[.int .u32 X.toNat] w fun e w' => e = .returned (.slice (some ⟨w.heap.size, 0, none⟩) 4 4) ∧ Row w' 5 1 (.slice (some ⟨w.heap.size, 0, none⟩) 4 4) 4 (byts (le4 X)) (fun k => w.heap.size ≤ k) ∧ Below w.heap.size w w' := by
 have HLB := Lib.hid (le4_byts' X)
 have hX := w32_bd X
 have a1 := mask32 (X.toNat : Int) hX.1 hX.2
 have a2 := mask32 ((X.toNat : Int) / 256) (by omega) (by omega)
 have a3 := mask32 ((X.toNat : Int) / 65536) (by omega) (by omega)
 go_enter Tryz.func137, Tryz.ntmps137
 go_wp2
 go_ret
 refine ⟨rfl, ?_, (Below.refl _ _).alloc (Nat.le_refl _) _⟩
 rw [HLB.out]
 exact ⟨rfl, .inr ⟨w.heap.size, 0, 4, _, rfl, Nat.le_refl _, heap_alloc_new w _, Nat.le_refl _, by unfold maxLen; omega, Nat.le_refl _, rfl⟩⟩
set_option maxHeartbeats 2000000 in
theorem rseal_any (ba : Option Addr) (bc : Nat) (l : List UInt8) (w : World) (h : Reads w (.slice ba l.length bc) l.length 1 (byts l)) (hl : l.length ≤ 100000000) :
   Calls Tryz.prog 136 #[.slice ba l.length bc] w fun e w' => ∃ a c, e = .returned (.slice a (l.length + 4) c) ∧ Row w' 5 1 (.slice a (l.length + 4) c) (l.length + 4) (byts (sealB l)) (fun k => w.heap.size ≤ k) ∧ Below w.heap.size w w' := by
 have HR := Lib.hid h
 have HSB : Hid (byts (sealB l) = byts l ++ byts (le4 (crcB l))) := by rw [Hid, ← byts_append]; rfl
 have HBE : Hid (Below w.heap.size w (w.alloc (.cells #[] 5))) := (Below.refl _ _).alloc (Nat.le_refl _) _
 have HOW : Hid ((w.alloc (.cells #[] 5)).ownsRow w.heap.size 5 1 (.slice (some ⟨w.heap.size, 0, none⟩) 0 0) 0 []) := owns_empty w w.heap.size 5 1 (Nat.le_refl _) rfl
 have HRE := Lib.hid (HR.out.later HBE.out)
 have HSU := Lib.hid (fun w' (hb : Below w.heap.size w w') => rsum_any ba bc l w' (h.later hb) (by omega))
 generalize crcB l = X at *
 clear h
 obtain ⟨rl, hrl⟩ : ∃ rl, rl = l.length := ⟨_, rfl⟩
 have HRL := Lib.hid hrl
 rw [← hrl] at hl HR HRE HSU ⊢
 clear hrl
 go_enter Tryz.func136, Tryz.ntmps136
 go_upto_region 1 with fail
 go_wp2_with (
   refine wpList_app elemU8 rfl rfl (base := w.heap.size) (v := .slice (some ⟨w.heap.size, 0, none⟩) 0 0) (n := 0) (xs := []) rfl HOW.out (y := .slice ba rl bc) (m := rl) (news := byts l) rfl HRE.out (byts_one _) (by unfold maxLen; omega) (by omega) (by simp) ?_
   intro v1 w1 hr1 hg1 hn1)
 rw [Nat.zero_add] at hr1
 rw [List.nil_append] at hr1
 obtain ⟨a1, c1, rfl⟩ : ∃ a c, v1 = .slice a rl c := by obtain ⟨-, ao, c, h, -⟩ := reads_of_owns hr1; exact ⟨ao, c, h⟩
 have HR1 := Lib.hid (Row.ofOwns hr1)
 have HB1 : Hid (Below w.heap.size w w1) := HBE.out.grown hg1 (by simp) (fun k e => by simp only [Value.ownBlock, Option.some.injEq] at e; omega)
 have HS1 := Lib.hid (HSU.out w1 HB1.out)
 clear hr1 hg1 hn1 HOW HRE HBE
 go_wp2_with fail
 refine HS1.out.mono ?_
 rintro e w2 ⟨rfl, rfl⟩
 clear HS1
 go_wp2_with fail
 refine (rlittle_any X w2).mono ?_
 rintro e w3 ⟨rfl, hr3, hb3⟩
 have HB3 := Lib.hid (HB1.out.trans (hb3.mono HB1.out.size))
 have HR3 := Lib.hid (HR1.out.frame (fun k _ hk => hb3.block k hk))
 have HN3 := Lib.hid hr3.reads
 have HS3 := Lib.hid HB1.out.size
 clear hr3 hb3 HR1 HB1
 go_wp2_with (
   refine wpList_row elemU8 rfl rfl (S := fun k => w.heap.size ≤ k) (n := rl) (xs := byts l) rfl HR3.out (y := .slice (some ⟨w2.heap.size, 0, none⟩) 4 4) (m := 4) (news := byts (le4 X)) rfl HN3.out (byts_one _) (by unfold maxLen; omega) (by omega) ?_
   intro v4 w4 hr4 hc4)
 obtain ⟨a4, c4, rfl⟩ : ∃ a c, v4 = .slice a (rl + 4) c := by obtain ⟨-, ao, c, h, -⟩ := hr4.reads; exact ⟨ao, c, h⟩
 have HB4 : Hid (Below w.heap.size w w4) := HB3.out.trans (hc4.toBelow HB3.out.size (fun k hk e => by have e2 : w.heap.size ≤ k := e; omega))
 have HR4 : Hid (Row w4 5 1 (.slice a4 (rl + 4) c4) (rl + 4) (byts (sealB l)) (fun k => w.heap.size ≤ k)) := by
   rw [Hid, HSB.out]
   have := HB3.out.size
   exact hr4.mono (fun k hk => by omega)
 clear hr4 hc4 HN3 HR3
 go_wp2
 go_ret
 exact ⟨a4, c4, rfl, HR4.out, HB4.out⟩
set_option maxHeartbeats 2000000 in
theorem rmake_any (ba : Option Addr) (bc : Nat) (r : List UInt8) (w : World) (h : Reads w (.slice ba r.length bc) r.length 1 (byts r)) (hl : r.length ≤ 10000000) :
   Calls Tryz.prog 94 #[.slice ba r.length bc] w (BytesP w (if 1048576 < r.length then none else some (frameB r))) := by
 have HR := Lib.hid h
 obtain ⟨Q, hQ⟩ : ∃ Q, Q = BytesP w (if 1048576 < r.length then none else some (frameB r)) := ⟨_, rfl⟩
 have HQD := Lib.hid hQ
 rw [← hQ]
 clear hQ h
 by_cases hbig : 1048576 < r.length
 · have HQ : Hid (Q (.returned (.tuple #[.slice none 0 0, .bool false])) w) := by rw [HQD.out, Hid, if_pos hbig]; exact ⟨rfl, Below.refl _ _⟩
   go_enter Tryz.func94, Tryz.ntmps94
   go_wp2
   exact HQ.out
 · have HQI : (if 1048576 < r.length then none else some (frameB r)) = some (frameB r) := if_neg hbig
   rw [HQI] at HQD
   clear HQI
   have HL8 := Lib.hid (frameB_length r)
   obtain ⟨n, hn⟩ : ∃ n, n = r.length := ⟨_, rfl⟩
   have HN := Lib.hid hn
   rw [← hn] at hbig hl HR ⊢
   have hX : (BitVec.ofNat 32 n).toNat = n := by rw [BitVec.toNat_ofNat]; exact Nat.mod_eq_of_lt (by omega)
   have HLI := Lib.hid (fun w' => rlittle_any (BitVec.ofNat 32 n) w')
   rw [hX] at HLI
   have HFR : Hid (frameB r = sealB (le4 (BitVec.ofNat 32 n) ++ r)) := by rw [hn]; rfl
   have HX4 : Hid ((le4 (BitVec.ofNat 32 n) ++ r).length = 4 + n) := by rw [Hid, List.length_append, le4_length, hn]
   have HXB : Hid (byts (le4 (BitVec.ofNat 32 n)) ++ byts r = byts (le4 (BitVec.ofNat 32 n) ++ r)) := (byts_append _ _).symm
   generalize BitVec.ofNat 32 n = X at *
   clear hn hX
   go_enter Tryz.func94, Tryz.ntmps94
   go_wp2_with fail
   refine (HLI.out w).mono ?_
   rintro e w1 ⟨rfl, hr1, hb1⟩
   have HB1 := Lib.hid hb1
   have HR1 := Lib.hid hr1
   have HRR := Lib.hid (HR.out.later hb1)
   clear hr1 hb1 HLI
   go_wp2_with (
     refine wpList_row elemU8 rfl rfl (S := fun k => w.heap.size ≤ k) (n := 4) (xs := byts (le4 X)) rfl HR1.out (y := .slice ba n bc) (m := n) (news := byts r) rfl HRR.out (byts_one _) (by unfold maxLen; omega) (by omega) ?_
     intro v2 w2 hr2 hc2)
   obtain ⟨a2, c2, rfl⟩ : ∃ a c, v2 = .slice a (4 + n) c := by obtain ⟨-, ao, c, h, -⟩ := hr2.reads; exact ⟨ao, c, h⟩
   have HB2 : Hid (Below w.heap.size w w2) := HB1.out.trans (hc2.toBelow HB1.out.size (fun k hk e => by have e2 : w.heap.size ≤ k := e; omega))
   have HS : Hid (Calls Tryz.prog 136 #[.slice a2 (4 + n) c2] w2 fun e w' => ∃ a c, e = .returned (.slice a (n + 8) c) ∧ Row w' 5 1 (.slice a (n + 8) c) (n + 8) (byts (frameB r)) (fun k => w2.heap.size ≤ k) ∧ Below w2.heap.size w2 w') := by
     have h1 := hr2.reads
     rw [HXB.out, ← HX4.out] at h1
     have := rseal_any a2 c2 (le4 X ++ r) w2 h1 (by rw [HX4.out]; omega)
     rw [HX4.out, ← HFR.out, show 4 + n + 4 = n + 8 by omega] at this
     exact this
   clear hr2 hc2 HR1 HRR
   go_wp2_with fail
   refine HS.out.mono ?_
   rintro e w4 ⟨a4, c4, rfl, hr4, hb4⟩
   have HQ : Hid (Q (.returned (.tuple #[.slice a4 (n + 8) c4, .bool true])) w4) := by
     rw [HQD.out]
     have hs := HB2.out.size
     refine ⟨⟨a4, c4, by rw [HL8.out, HN.out], ?_⟩, HB2.out.trans (hb4.mono hs)⟩
     rw [HL8.out, ← HN.out]
     exact hr4.mono (fun k hk => by omega)
   clear hr4 hb4
   go_wp2
   exact HQ.out
end Go.Proofs.YtgdmdbdljmlkkaaGreatDoor
