/- The reference's List: by insertion; and whether a number is in a list. -/
import Derived.Test.YtgdmdbdljmlkkaaGreatDoorChecked
import Derived.Test.YtgdmdbdljmlkkaaGreatDoorBase
import Derived.Test.YtgdmdbdljmlkkaaGreatDoorSegName
import Derived.Test.YtgdmdbdljmlkkaaGreatDoorSegRefNumber
namespace Go.Proofs.YtgdmdbdljmlkkaaGreatDoor
set_option linter.unusedVariables false
set_option linter.unusedSimpArgs false
open Go.RowKit Go.Lib

abbrev ints (l : List Int) : List Value := l.map (Value.int .i64)
theorem ints_one (l : List Int) : ∀ u ∈ ints l, u.oneCell' = true := ints_oneCell _ _
theorem ints_take (l : List Int) (j : Nat) : ints (l.take j) = (ints l).take j := List.map_take
theorem ints_drop (l : List Int) (j : Nat) : ints (l.drop j) = (ints l).drop j := List.map_drop
theorem elemInt : ElemOf Tryz.prog 40 3 (.int .i64 0) 1 8 := ⟨Tryz.underlying40, by kernel_rfl, rfl, by decide⟩

def hasB (l : List Int) (n : Int) : Bool := l.contains n

set_option maxRecDepth 100000 in
set_option maxHeartbeats 1000000 in
theorem has_any (v : Value) (l : List Int) (n : Int) (w : World) (hr : Reads w v l.length 1 (ints l)) (hs : l.length ≤ 9223372036854775807) :
    Calls Tryz.prog 124 #[v, .int .i64 n] w fun e w' => e = .returned (.bool (hasB l n)) ∧ w = w' := by
  have Hr := Lib.hid hr
  obtain ⟨-, ao, c, rfl, -, -, -⟩ := hr
  go_enter Tryz.func124, Tryz.ntmps124
  go_wp2
  go_loop [5] (fun i => ∃ k : Nat, k ≤ l.length ∧ i = .int .i64 k ∧ Hid (hasB l n = (l.drop k).contains n)) (fun i => l.length - (RowKit.intOf i).toNat)
  case atStart => exact ⟨0, by omega, rfl, rfl⟩
  case round =>
    obtain ⟨k, hk, rfl, Hk⟩ := hrel
    by_cases hlt : k < l.length
    · obtain ⟨b, o, c', hv, hnc, _, hc⟩ := Hr.out.at (by omega)
      cases hv
      have hcell : w.cell? ⟨b, o + k, none⟩ = some (.int .i64 (l[k])) := hc k _ (by simp [hlt])
      have hd : l.drop k = l[k] :: l.drop (k + 1) := List.drop_eq_getElem_cons hlt
      have HD := Lib.hid hd
      clear hd hc
      generalize l[k] = x at *
      by_cases hx : x = n
      · subst hx
        have H : Hid (hasB l x = true) := by rw [Hid, Hk.out, HD.out]; simp
        go_wp2
        go_ret
        exact ⟨congrArg (fun b => Ending.returned (.bool b)) H.out.symm, rfl⟩
      · have hne : (x == n) = false := by simpa using hx
        have H : Hid (hasB l n = (l.drop (k + 1)).contains n) := by
          rw [Hid, Hk.out, HD.out, List.contains_cons]
          have : (n == x) = false := by simpa using fun e => hx (Eq.symm e)
          rw [this]; rfl
        go_wp2
        go_round
        case rel => exact ⟨k + 1, by omega, by go_num, H⟩
        case measure => simp [RowKit.intOf]; omega
    · obtain rfl : k = l.length := by omega
      have H : Hid (hasB l n = false) := by rw [Hid, Hk.out]; simp
      go_wp2
      go_ret
      exact ⟨congrArg (fun b => Ending.returned (.bool b)) H.out.symm, rfl⟩

theorem owns_mono {w : World} {base base' : Nat} {e : TypeId} {size : Nat} {v : Value} {n : Nat} {xs : List Value} (h : w.ownsRow base e size v n xs) (hb : base' ≤ base) : w.ownsRow base' e size v n xs := by
  refine ⟨h.1, ?_⟩
  rcases h.2 with h2 | ⟨g, cap, cur, hv, hg, r⟩
  · exact .inl h2
  · exact .inr ⟨g, cap, cur, hv, Nat.le_trans hb hg, r⟩

theorem take_snoc {α : Type} (l : List α) (k : Nat) (h : k < l.length) : l.take (k + 1) = l.take k ++ [l[k]] := List.take_succ_eq_append_getElem h

abbrev strsV (ss : List ByteArray) : List Value := ss.map Value.string

set_option maxRecDepth 100000 in
set_option maxHeartbeats 2000000 in
theorem refList_any (v : Value) (ss : List ByteArray) (w : World) (hr : Reads w v ss.length 1 (strsV ss)) (hs : ss.length ≤ 1000) :
    Calls Tryz.prog 67 #[v] w fun e w' => ∃ v', e = .returned v' ∧ w'.ownsRow w.heap.size 3 1 v' (refL ss).length (ints (refL ss)) ∧ Below w.heap.size w w' := by
  have Hr := Lib.hid hr
  obtain ⟨-, ao, c, rfl, -, -, -⟩ := hr
  go_enter Tryz.func67, Tryz.ntmps67
  go_wp2
  go_loopw [3, 4] (fun out i w' => ∃ k : Nat, k ≤ ss.length ∧ i = .int .i64 k ∧ w'.ownsRow w.heap.size 3 1 out (refL (ss.take k)).length (ints (refL (ss.take k))) ∧ Below w.heap.size w w') (fun _ i _ => ss.length - (RowKit.intOf i).toNat)
  case atStart => exact ⟨0, by omega, rfl, World.ownsRow_nil _ _ _ _, Below.refl _ _⟩
  case round =>
    obtain ⟨k, hk, rfl, hown, hbel⟩ := hrel
    by_cases hlt : k < ss.length
    · obtain ⟨b, o, c', hv, hnc, _, hc⟩ := (Hr.out.later hbel).at (by omega)
      cases hv
      have hcell : wr.cell? ⟨b, o + k, none⟩ = some (.string (ss[k])) := hc k _ (by simp [hlt])
      have hsn := refL_snoc (ss.take k) ss[k]
      rw [← take_snoc ss k hlt] at hsn
      have HS := Lib.hid hsn
      have hlen := refL_length (ss.take k)
      have hlt60 : (ss.take k).length ≤ k := by rw [List.length_take]; omega
      clear hsn hc
      generalize ss[k] = s at *
      obtain ⟨l', hl'⟩ : ∃ l', l' = refL (ss.take (k + 1)) := ⟨_, rfl⟩
      rw [← hl'] at HS
      have HL' := Lib.hid hl'
      clear hl'
      generalize refL (ss.take k) = l at *
      have hl60 : l.length ≤ 1000 := by omega
      have HOWN := Lib.hid hown
      clear hlt60 hlen hown
      have hnum := refNumber_any s
      unfold numOut at hnum
      have hnv := numV_le s.data.toList
      generalize numV s.data.toList = n at *
      have HNUM := Lib.hid hnum
      clear hnum
      by_cases h0 : 0 < n
      · rw [decide_eq_true h0] at HNUM
        have HS' : Hid (l' = ins l n) := by rw [Hid, HS.out, if_pos h0]
        clear HS
        go_wp2_with fail
        refine (HNUM.out _).mono ?_
        rintro e w1 ⟨rfl, rfl⟩
        go_wp2_with fail
        refine (has_any _ l n wr (reads_of_owns HOWN.out) (by omega)).mono ?_
        rintro e w1 ⟨rfl, rfl⟩
        obtain ⟨hb, hhb⟩ : ∃ hb, hb = hasB l n := ⟨_, rfl⟩
        simp only
        rw [← hhb]
        cases hb with
        | true =>
          have HI : Hid (l' = l) := by rw [Hid, HS'.out, ins]; rw [hasB] at hhb; rw [if_pos hhb.symm]
          clear hhb
          go_wp2
          go_roundw
          case rel => exact ⟨k + 1, by omega, by go_num, by rw [← HL'.out, HI.out]; exact HOWN.out, hbel⟩
          case measure => simp [RowKit.intOf]; omega
        | false =>
          have HI : Hid (l' = l.take (insAt l n) ++ [(n : Int)] ++ l.drop (insAt l n)) := by rw [Hid, HS'.out, ins]; rw [hasB] at hhb; rw [if_neg (by rw [← hhb]; simp)]
          have hjl := insAt_le l n
          have HLT := Lib.hid (insAt_lt l n)
          have HST := Lib.hid (insAt_stop l n)
          generalize insAt l (n : Int) = p at *
          clear hhb
          rcases HOWN.out.2 with ⟨rfl, hn0⟩ | ⟨g, cap, cur, rfl, hbg, hg, hncap, hcm, hcs, htk⟩
          · obtain rfl : l = [] := List.eq_nil_of_length_eq_zero hn0
            obtain rfl : p = 0 := by simpa using hjl
            have HF := Lib.hid (show w.heap.size ≤ wr.heap.size from hbel.size)
            have HBW := Lib.hid (show Below w.heap.size w wr from hbel)
            clear hn0 hbel hcell hjl
            go_wp2
            go_loop [7] (fun i => i = .int .i64 0) (fun _ => 0)
            case atStart => rfl
            case round =>
              subst hrel
              go_wp2
              have tok1 : True := trivial
              have tok2 : True := trivial
              have tok3 : True := trivial
              go_region_law (first
                | (have _t := tok1; refine step_app elemInt (base := wr.heap.size) (v := .slice (some ⟨_, 0, none⟩) 0 0) (n := 0) (xs := []) (y := .slice none 0 0) rfl rfl rfl (by first | exact (owns_empty _ _ _ _ (by first | (simp; done) | (simp; omega)) (by simp)).drew | exact ((owns_empty _ _ _ _ (by first | (simp; done) | (simp; omega)) (by simp)).alloc _).drew) rfl (m := 0) (news := []) (Reads.nil _ _) (fun _ h => by cases h) (by unfold maxLen; omega) (by omega) (by first | (simp; done) | (simp; omega)) ?_; intro v1 w1 hown1 hgr1; have hb1 : Below wr.heap.size wr w1 := (by first | exact ((Below.refl _ _).alloc (Nat.le_refl _) _).drew.grown hgr1 (by first | (simp; done) | (simp; omega)) (by intro k hk; simp [Value.ownBlock] at hk; omega) | exact (((Below.refl _ _).alloc (Nat.le_refl _) _).alloc (by first | (simp; done) | (simp; omega)) _).drew.grown hgr1 (by first | (simp; done) | (simp; omega)) (by intro k hk; simp [Value.ownBlock] at hk; omega)); clear tok1)
                | (have _t := tok2; refine step_app elemInt (base := wr.heap.size) (v := v1) (y := .slice (some ⟨_, 0, none⟩) 1 1) (n := 0 + 0) (xs := [] ++ []) rfl rfl rfl (by first | exact hown1 | exact hown1.alloc _) rfl (m := 1) (news := [.int .i64 n]) (by first | exact reads_cell (by simp) | exact reads_cell (hgr1.cell (by simp) (by simp [Value.ownBlock]))) (one_of rfl) (by unfold maxLen; omega) (by omega) (by first | exact hb1.size | (simp; have := hb1.size; omega)) ?_; intro v2 w2 hown2 hgr2; have hb2 : Below wr.heap.size wr w2 := (by first | exact hb1.grown hgr2 hb1.size (fun k hk => (hown1.lt k hk).1) | exact (hb1.alloc hb1.size _).grown hgr2 (by simp; have := hb1.size; omega) (fun k hk => (hown1.lt k hk).1)); clear tok2)
                | (have _t := tok3; refine step_app elemInt (base := wr.heap.size) (v := v2) (y := .slice none 0 0) (n := 0 + 0 + 1) (xs := [] ++ [] ++ [.int .i64 n]) rfl rfl rfl hown2 rfl (m := 0) (news := []) (Reads.nil _ _) (fun _ h => by cases h) (by unfold maxLen; omega) (by omega) hb2.size ?_; intro v3 w3 hown3 hgr3; have hb3 : Below wr.heap.size wr w3 := hb2.grown hgr3 hb2.size (fun k hk => (hown2.lt k hk).1); clear tok3))
              all_goals
                have HFIN : Hid (w3.ownsRow w.heap.size 3 1 v3 l'.length (ints l')) := by
                  have e : ints l' = [] ++ [] ++ [.int .i64 n] ++ [] := by rw [HI.out]; simp
                  have e2 : l'.length = 0 + 0 + 1 + 0 := by rw [HI.out]; simp
                  rw [Hid, e, e2]
                  exact owns_mono hown3 HF.out
                have HB3 := Lib.hid (HBW.out.trans (hb3.mono HF.out))
                clear hown1 hown2 hown3 hgr1 hgr2 hgr3 hb1 hb2 hb3
                go_wp2
                go_roundw
                case rel => exact ⟨k + 1, by omega, by go_num, by rw [← HL'.out]; exact HFIN.out, HB3.out⟩
                case measure => simp [RowKit.intOf]; omega
          · have hcellL : ∀ j (hj : j < l.length), wr.cell? ⟨g, j, none⟩ = some (.int .i64 l[j]) := fun j hj => by
              have := HOWN.out.cells (g := g) rfl j (.int .i64 l[j]) (by simp [hj])
              simpa [Addr.add_lit] using this
            have HC := Lib.hid hcellL
            clear hcellL hg hcs htk
            go_wp2
            go_loop [7] (fun i => ∃ j : Nat, j ≤ p ∧ i = .int .i64 j) (fun i => p - (RowKit.intOf i).toNat)
            case atStart => exact ⟨0, by omega, rfl⟩
            case round =>
              obtain ⟨j, hj, rfl⟩ := hrel
              by_cases hjp : j < p
              · have hjl2 : j < l.length := by omega
                have hcj := HC.out j hjl2
                have hltj := HLT.out j hjp hjl2
                generalize l[j] = x at *
                go_wp2
                go_round
                case rel => exact ⟨j + 1, by omega, by go_num⟩
                case measure => simp [RowKit.intOf]; omega
              · obtain rfl : j = p := by omega
                by_cases hjl2 : j < l.length
                · have hcj := HC.out j hjl2
                  have hltj := HST.out hjl2
                  generalize l[j] = x at *
                  have hjc : j ≤ cap := by omega
                  have HF := Lib.hid (show w.heap.size ≤ wr.heap.size from hbel.size)
                  have HRW := Lib.hid (show Reads wr (.slice (some ⟨g, 0, none⟩) l.length cap) l.length 1 (ints l) from reads_of_owns HOWN.out)
                  have HGW := Lib.hid (show ∀ k, (Value.slice (some ⟨g, 0, none⟩) l.length cap).ownBlock = some k → k < wr.heap.size from fun k hk => (HOWN.out.lt k hk).2)
                  have HBW := Lib.hid (show Below w.heap.size w wr from hbel)
                  clear hbel hcell hbg hncap hcm
                  go_wp2
                  have tok1 : True := trivial
                  have tok2 : True := trivial
                  have tok3 : True := trivial
                  go_region_law (first
                    | (have _t := tok1; refine step_app elemInt (base := wr.heap.size) (v := .slice (some ⟨_, 0, none⟩) 0 0) (n := 0) (xs := []) (y := .slice (some ⟨g, 0, none⟩) j cap) rfl rfl rfl (by first | exact (owns_empty _ _ _ _ (by first | (simp; done) | (simp; omega)) (by simp)).drew | exact ((owns_empty _ _ _ _ (by first | (simp; done) | (simp; omega)) (by simp)).alloc _).drew) rfl (m := j) (news := ints (l.take j)) (by rw [ints_take]; exact (HRW.out.below (by first | exact ((Below.refl _ _).alloc (Nat.le_refl _) _).drew | exact (((Below.refl _ _).alloc (Nat.le_refl _) _).alloc (by first | (simp; done) | (simp; omega)) _).drew) HGW.out).take j hjl) (ints_one _) (by unfold maxLen; omega) (by omega) (by first | (simp; done) | (simp; omega)) ?_; intro v1 w1 hown1 hgr1; have hb1 : Below wr.heap.size wr w1 := (by first | exact ((Below.refl _ _).alloc (Nat.le_refl _) _).drew.grown hgr1 (by first | (simp; done) | (simp; omega)) (by intro k hk; simp [Value.ownBlock] at hk; omega) | exact (((Below.refl _ _).alloc (Nat.le_refl _) _).alloc (by first | (simp; done) | (simp; omega)) _).drew.grown hgr1 (by first | (simp; done) | (simp; omega)) (by intro k hk; simp [Value.ownBlock] at hk; omega)); clear tok1)
                    | (have _t := tok2; refine step_app elemInt (base := wr.heap.size) (v := v1) (y := .slice (some ⟨_, 0, none⟩) 1 1) (n := 0 + j) (xs := [] ++ ints (l.take j)) rfl rfl rfl (by first | exact hown1 | exact hown1.alloc _) rfl (m := 1) (news := [.int .i64 n]) (by first | exact reads_cell (by simp) | exact reads_cell (hgr1.cell (by simp) (by simp [Value.ownBlock]))) (one_of rfl) (by unfold maxLen; omega) (by omega) (by first | exact hb1.size | (simp; have := hb1.size; omega)) ?_; intro v2 w2 hown2 hgr2; have hb2 : Below wr.heap.size wr w2 := (by first | exact hb1.grown hgr2 hb1.size (fun k hk => (hown1.lt k hk).1) | exact (hb1.alloc hb1.size _).grown hgr2 (by simp; have := hb1.size; omega) (fun k hk => (hown1.lt k hk).1)); clear tok2)
                    | (have _t := tok3; refine step_app elemInt (base := wr.heap.size) (v := v2) (y := .slice _ (l.length - j) (cap - j)) (n := 0 + j + 1) (xs := [] ++ ints (l.take j) ++ [.int .i64 n]) rfl rfl rfl hown2 rfl (m := l.length - j) (news := ints (l.drop j)) (by rw [ints_drop]; exact Reads.drop (HRW.out.below hb2 HGW.out) j hjl _ (by intro h; simp [h]) (by first | (split <;> simp; done) | (simp; done))) (ints_one _) (by unfold maxLen; omega) (by omega) hb2.size ?_; intro v3 w3 hown3 hgr3; have hb3 : Below wr.heap.size wr w3 := hb2.grown hgr3 hb2.size (fun k hk => (hown2.lt k hk).1); clear tok3))
                  all_goals
                    have HFIN : Hid (w3.ownsRow w.heap.size 3 1 v3 l'.length (ints l')) := by
                      have e : ints l' = [] ++ ints (l.take j) ++ [.int .i64 n] ++ ints (l.drop j) := by rw [HI.out]; simp
                      have e2 : l'.length = 0 + j + 1 + (l.length - j) := by rw [HI.out]; simp; omega
                      rw [Hid, e, e2]
                      exact owns_mono hown3 HF.out
                    have HB3 := Lib.hid (HBW.out.trans (hb3.mono HF.out))
                    clear hown1 hown2 hown3 hgr1 hgr2 hgr3 hb1 hb2 hb3
                    go_wp2
                    go_roundw
                    case rel => exact ⟨k + 1, by omega, by go_num, by rw [← HL'.out]; exact HFIN.out, HB3.out⟩
                    case measure => simp [RowKit.intOf]; omega
                · have hjc : j ≤ cap := by omega
                  have HF := Lib.hid (show w.heap.size ≤ wr.heap.size from hbel.size)
                  have HRW := Lib.hid (show Reads wr (.slice (some ⟨g, 0, none⟩) l.length cap) l.length 1 (ints l) from reads_of_owns HOWN.out)
                  have HGW := Lib.hid (show ∀ k, (Value.slice (some ⟨g, 0, none⟩) l.length cap).ownBlock = some k → k < wr.heap.size from fun k hk => (HOWN.out.lt k hk).2)
                  have HBW := Lib.hid (show Below w.heap.size w wr from hbel)
                  clear hbel hcell hbg hncap hcm
                  go_wp2
                  have tok1 : True := trivial
                  have tok2 : True := trivial
                  have tok3 : True := trivial
                  go_region_law (first
                    | (have _t := tok1; refine step_app elemInt (base := wr.heap.size) (v := .slice (some ⟨_, 0, none⟩) 0 0) (n := 0) (xs := []) (y := .slice (some ⟨g, 0, none⟩) j cap) rfl rfl rfl (by first | exact (owns_empty _ _ _ _ (by first | (simp; done) | (simp; omega)) (by simp)).drew | exact ((owns_empty _ _ _ _ (by first | (simp; done) | (simp; omega)) (by simp)).alloc _).drew) rfl (m := j) (news := ints (l.take j)) (by rw [ints_take]; exact (HRW.out.below (by first | exact ((Below.refl _ _).alloc (Nat.le_refl _) _).drew | exact (((Below.refl _ _).alloc (Nat.le_refl _) _).alloc (by first | (simp; done) | (simp; omega)) _).drew) HGW.out).take j hjl) (ints_one _) (by unfold maxLen; omega) (by omega) (by first | (simp; done) | (simp; omega)) ?_; intro v1 w1 hown1 hgr1; have hb1 : Below wr.heap.size wr w1 := (by first | exact ((Below.refl _ _).alloc (Nat.le_refl _) _).drew.grown hgr1 (by first | (simp; done) | (simp; omega)) (by intro k hk; simp [Value.ownBlock] at hk; omega) | exact (((Below.refl _ _).alloc (Nat.le_refl _) _).alloc (by first | (simp; done) | (simp; omega)) _).drew.grown hgr1 (by first | (simp; done) | (simp; omega)) (by intro k hk; simp [Value.ownBlock] at hk; omega)); clear tok1)
                    | (have _t := tok2; refine step_app elemInt (base := wr.heap.size) (v := v1) (y := .slice (some ⟨_, 0, none⟩) 1 1) (n := 0 + j) (xs := [] ++ ints (l.take j)) rfl rfl rfl (by first | exact hown1 | exact hown1.alloc _) rfl (m := 1) (news := [.int .i64 n]) (by first | exact reads_cell (by simp) | exact reads_cell (hgr1.cell (by simp) (by simp [Value.ownBlock]))) (one_of rfl) (by unfold maxLen; omega) (by omega) (by first | exact hb1.size | (simp; have := hb1.size; omega)) ?_; intro v2 w2 hown2 hgr2; have hb2 : Below wr.heap.size wr w2 := (by first | exact hb1.grown hgr2 hb1.size (fun k hk => (hown1.lt k hk).1) | exact (hb1.alloc hb1.size _).grown hgr2 (by simp; have := hb1.size; omega) (fun k hk => (hown1.lt k hk).1)); clear tok2)
                    | (have _t := tok3; refine step_app elemInt (base := wr.heap.size) (v := v2) (y := .slice _ (l.length - j) (cap - j)) (n := 0 + j + 1) (xs := [] ++ ints (l.take j) ++ [.int .i64 n]) rfl rfl rfl hown2 rfl (m := l.length - j) (news := ints (l.drop j)) (by rw [ints_drop]; exact Reads.drop (HRW.out.below hb2 HGW.out) j hjl _ (by intro h; simp [h]) (by first | (split <;> simp; done) | (simp; done))) (ints_one _) (by unfold maxLen; omega) (by omega) hb2.size ?_; intro v3 w3 hown3 hgr3; have hb3 : Below wr.heap.size wr w3 := hb2.grown hgr3 hb2.size (fun k hk => (hown2.lt k hk).1); clear tok3))
                  all_goals
                    have HFIN : Hid (w3.ownsRow w.heap.size 3 1 v3 l'.length (ints l')) := by
                      have e : ints l' = [] ++ ints (l.take j) ++ [.int .i64 n] ++ ints (l.drop j) := by rw [HI.out]; simp
                      have e2 : l'.length = 0 + j + 1 + (l.length - j) := by rw [HI.out]; simp; omega
                      rw [Hid, e, e2]
                      exact owns_mono hown3 HF.out
                    have HB3 := Lib.hid (HBW.out.trans (hb3.mono HF.out))
                    clear hown1 hown2 hown3 hgr1 hgr2 hgr3 hb1 hb2 hb3
                    go_wp2
                    go_roundw
                    case rel => exact ⟨k + 1, by omega, by go_num, by rw [← HL'.out]; exact HFIN.out, HB3.out⟩
                    case measure => simp [RowKit.intOf]; omega
      · have hn0 : n = 0 := by omega
        subst hn0
        have HS' : Hid (l' = l) := by rw [Hid, HS.out, if_neg h0]
        rw [show decide (0 < 0) = false from rfl] at HNUM
        clear HS h0
        go_wp2_with fail
        refine (HNUM.out _).mono ?_
        rintro e w1 ⟨rfl, rfl⟩
        go_wp2
        go_roundw
        case rel => exact ⟨k + 1, by omega, by go_num, by rw [← HL'.out, HS'.out]; exact HOWN.out, hbel⟩
        case measure => simp [RowKit.intOf]; omega
    · obtain rfl : k = ss.length := by omega
      go_wp2
      go_ret
      rw [List.take_length] at hown
      exact ⟨_, rfl, hown, hbel⟩
end Go.Proofs.YtgdmdbdljmlkkaaGreatDoor
