/- The law InboxOnce walks. -/
import Derived.Test.YtbofbboogmeneaaInNames2
import Derived.Deep.RegionWith
namespace Go.Proofs.Ytbofbboogmeneaa
set_option linter.unusedVariables false
set_option linter.unusedSimpArgs false
open Go.RowKit

def nm (k : Nat) : ByteArray := ⟨#[UInt8.ofNat (97 + k)]⟩
theorem nm_inj {j k : Nat} (hj : j < 3) (hk : k < 3) : nm j = nm k ↔ j = k := by
  have : ∀ j < 3, ∀ k < 3, (nm j = nm k ↔ j = k) := by decide
  exact this j hj k hk

theorem conv_nm {k : Nat} (hk : k < 3) (W : World) (b : Nat) (h : W.cell? ⟨b, 0, none⟩ = some (.int .u8 (97 + (k : Int)))) : (convert 22 9 (.slice (some ⟨b, 0, none⟩) 1 1)).run Try.prog W = .ok (.string (nm k)) W := by
  have := run_convert_bytes_back (P := Try.prog) W 22 9 5 ⟨b, 0, none⟩ 1 [UInt8.ofNat (97 + k)] Try.underlying22 Try.underlying5 Try.underlying9 (fun j hj => by
    obtain rfl : j = 0 := by simp at hj; omega
    have e : ((UInt8.ofNat (97 + k)).toNat : Int) = 97 + (k : Int) := by rw [UInt8.toNat_ofNat']; omega
    show W.cell? ⟨b, 0, none⟩ = _
    rw [h]; simp only [List.getElem_cons_zero]; rw [e])
  exact this

/-- Of the law's numbers those from lo on and below hi whose name is k. -/
def pick (xs : List Nat) (k lo hi : Nat) : List VV := ((List.range' lo (hi - lo)).filter fun i => xs.getD i 0 % 3 == k).map fun i : Nat => numV (i : Int)
theorem pick_nil (xs : List Nat) (k lo : Nat) : pick xs k lo lo = [] := by simp [pick]
theorem pick_snoc (xs : List Nat) (k m y : Nat) (h : xs[m]? = some y) : pick xs k 0 (m + 1) = pick xs k 0 m ++ (if y % 3 = k then [numV (m : Int)] else []) := by
  unfold pick
  rw [Nat.sub_zero, Nat.sub_zero, List.range'_1_concat, List.filter_append, List.map_append]
  congr 1
  by_cases hk : y % 3 = k <;> simp [h, hk]
theorem pick_cons (xs : List Nat) (k m n y : Nat) (hm : m < n) (h : xs[m]? = some y) : pick xs k m n = (if y % 3 = k then [numV (m : Int)] else []) ++ pick xs k (m + 1) n := by
  unfold pick
  rw [show n - m = (n - (m + 1)) + 1 by omega, List.range'_succ]
  by_cases hk : y % 3 = k <;> simp [h, hk]
theorem pick_len (xs : List Nat) (k lo hi : Nat) : (pick xs k lo hi).length ≤ hi - lo := by
  unfold pick
  rw [List.length_map]
  have := List.length_filter_le (fun i => xs.getD i 0 % 3 == k) (List.range' lo (hi - lo))
  rw [List.length_range'] at this
  exact this

/-- What is left when the law has taken all of the names below k, and the first m of name k. -/
def fam (xs : List Nat) (k m : Nat) : Nat → List VV := fun j => if j < k then [] else if j = k then pick xs j m xs.length else pick xs j 0 xs.length
theorem fam_at (xs : List Nat) (k m : Nat) : fam xs k m k = pick xs k m xs.length := by unfold fam; rw [if_neg (by omega), if_pos rfl]
theorem fam_next (xs : List Nat) (k : Nat) (j : Nat) : fam xs k xs.length j = if j < k + 1 then [] else pick xs j 0 xs.length := by
  unfold fam
  rcases Nat.lt_trichotomy j k with h | h | h
  · rw [if_pos h, if_pos (by omega)]
  · subst h; rw [if_neg (by omega), if_pos rfl, if_pos (by omega), pick_nil]
  · rw [if_neg (by omega), if_neg (by omega), if_neg (by omega)]
theorem fam_first (xs : List Nat) (k : Nat) (j : Nat) : (if j < k then [] else pick xs j 0 xs.length) = fam xs k 0 j := by
  unfold fam; split
  · rfl
  · split <;> rfl
theorem fam_hit (xs : List Nat) {k m y : Nat} (hm : m < xs.length) (h : xs[m]? = some y) (hy : y % 3 = k) : fam xs k m k = numV (m : Int) :: pick xs k (m + 1) xs.length := by
  rw [fam_at, pick_cons xs k m _ y hm h, if_pos hy]; rfl
theorem fam_hit2 (xs : List Nat) (k m : Nat) (j : Nat) : (if j = k then pick xs k (m + 1) xs.length else fam xs k m j) = fam xs k (m + 1) j := by
  unfold fam
  by_cases hj : j = k
  · subst hj; simp
  · simp [hj]
theorem fam_miss (xs : List Nat) {k m y : Nat} (hm : m < xs.length) (h : xs[m]? = some y) (hy : ¬ y % 3 = k) (j : Nat) : fam xs k m j = fam xs k (m + 1) j := by
  unfold fam
  by_cases hj : j = k
  · subst hj; rw [pick_cons xs j m _ y hm h, if_neg hy]; rfl
  · simp [hj]

/-- Three lists under the law's three names. -/
def tri (f : Nat → List VV) : ByteArray → List VV := fun s => if s = nm 0 then f 0 else if s = nm 1 then f 1 else if s = nm 2 then f 2 else []
theorem tri_at (f : Nat → List VV) {k : Nat} (hk : k < 3) : tri f (nm k) = f k := by
  unfold tri
  rcases k with _ | _ | _ | k
  · simp
  · rw [if_neg (by decide)]; simp
  · rw [if_neg (by decide), if_neg (by decide)]; simp
  · omega
theorem tri_upd (f : Nat → List VV) {k : Nat} (hk : k < 3) (l : List VV) : upd (tri f) (nm k) l = tri (fun j => if j = k then l else f j) := by
  funext s
  unfold upd
  by_cases hs : s = nm k
  · rw [if_pos hs, hs, tri_at _ hk, if_pos rfl]
  · rw [if_neg hs]
    unfold tri
    rcases k with _ | _ | _ | k
    · simp only [hs, if_false]; simp
    · simp only [hs, if_false]; simp
    · simp only [hs, if_false]; simp
    · omega
theorem tri_congr {f g : Nat → List VV} (h : ∀ j < 3, f j = g j) : tri f = tri g := by
  unfold tri; rw [h 0 (by omega), h 1 (by omega), h 2 (by omega)]
theorem tri_nil : tri (fun _ => []) = fun _ => [] := by
  funext s; unfold tri; split
  · rfl
  · split
    · rfl
    · split <;> rfl

/-- An inbox of the law's own that only holds these values. -/
def Full (w w' : World) (x : Value) (f : Nat → List VV) : Prop := ∃ S, Box w w' x (tri f) (fun _ => []) (fun _ => none) S
theorem Full.later {w w' w'' : World} {x : Value} {f : Nat → List VV} (h : Full w w' x f) (hb : Below w'.heap.size w' w'') : Full w w'' x f := let ⟨S, h1⟩ := h; ⟨S, h1.later hb⟩
theorem Full.bel {w w' : World} {x : Value} {f : Nat → List VV} (h : Full w w' x f) : Below w.heap.size w w' := let ⟨S, h1⟩ := h; h1.bel
theorem Full.congr {w w' : World} {x : Value} {f g : Nat → List VV} (h : Full w w' x f) (hfg : ∀ j < 3, f j = g j) : Full w w' x g := by
  unfold Full at *; rw [← tri_congr hfg]; exact h
theorem Full.put {w w' : World} {x : Value} {f : Nat → List VV} (h : Full w w' x f) {k : Nat} (hk : k < 3) (n : Int) (hlen : (f k).length < 1000) :
    Calls Try.prog 15 #[x, .string (nm k), (numV n).val] w' fun e w'' => e = .returned (.tuple #[.int .u64 0, .bool false]) ∧ Full w w'' x (fun j => if j = k then f k ++ [numV n] else f j) := by
  obtain ⟨S, h1⟩ := h
  refine (h1.keep (nm k) n rfl (by rw [tri_at _ hk]; exact hlen)).mono fun e w2 ⟨he, S2, hb, _, _⟩ => ⟨he, S2, ?_⟩
  rw [tri_at _ hk, tri_upd _ hk] at hb
  exact hb
theorem Full.take {w w' : World} {x : Value} {f : Nat → List VV} (h : Full w w' x f) {k : Nat} (hk : k < 3) {v : VV} {l : List VV} (hf : f k = v :: l) (id : Nat) :
    Calls Try.prog 11 #[x, .string (nm k), .int .u64 id] w' fun e w'' => e = .returned (.tuple #[v.val, .bool true]) ∧ Full w w'' x (fun j => if j = k then l else f j) := by
  obtain ⟨S, h1⟩ := h
  refine (h1.take (nm k) id (v := v) (l := l) (by rw [tri_at _ hk]; exact hf)).mono fun e w2 ⟨he, S2, hb, _, _⟩ => ⟨he, S2, ?_⟩
  rw [tri_upd _ hk] at hb
  exact hb
theorem Full.none {w w' : World} {x : Value} {f : Nat → List VV} (h : Full w w' x f) {k : Nat} (hk : k < 3) (hf : f k = []) :
    Calls Try.prog 11 #[x, .string (nm k), .int .u64 0] w' fun e w'' => e = .returned (.tuple #[zeroV, .bool false]) ∧ Full w w'' x f := by
  obtain ⟨S, h1⟩ := h
  exact (h1.idle (nm k) 0 (by rw [tri_at _ hk]; exact hf) (.inr rfl)).mono fun e w2 ⟨he, S2, hb, _, _⟩ => ⟨he, S2, hb⟩
theorem Full.count {w w' : World} {x : Value} {f : Nat → List VV} (h : Full w w' x f) {k : Nat} (hk : k < 3) (hf : f k = []) :
    Calls Try.prog 17 #[x, .string (nm k)] w' fun e w'' => e = .returned (.int .i64 0) ∧ w' = w'' := by
  obtain ⟨S, h1⟩ := h
  exact (icount_any x (nm k) _ _ _ _ _ h1.rep).mono fun e w2 ⟨he, hw⟩ => ⟨by rw [he, tri_at _ hk, hf]; rfl, hw⟩
theorem Full.names {w w' : World} {x : Value} (h : Full w w' x (fun _ => [])) :
    Calls Try.prog 24 #[x] w' fun e w'' => ∃ ao c, e = .returned (.slice ao 0 c) ∧ Below w'.heap.size w' w'' := by
  obtain ⟨S, h1⟩ := h
  rw [tri_nil] at h1
  refine (inames_any x _ _ _ _ _ h1.rep [] (by simp) (by simp) (by simp)).mono fun e w2 ⟨v, ss, he, hr, hb, _, hm⟩ => ?_
  have : ss = [] := List.eq_nil_iff_forall_not_mem.2 (fun s hs => by simpa using (hm s).1 hs)
  subst this
  obtain ⟨-, ao, c, rfl, -⟩ := hr
  exact ⟨ao, c, he, hb⟩

set_option maxRecDepth 100000 in
set_option maxHeartbeats 1000000 in
theorem once_any (v : Value) (xs : List Nat) (w : World) (hv : Reads w v xs.length 1 (xs.map fun b : Nat => Value.int .u8 (b : Int))) (hb : ∀ b ∈ xs, b < 256) :
    Calls Try.prog 5 #[v] w fun e w' => e = .returned (.bool true) ∧ Below w.heap.size w w' := by
  have HV := Lib.hid hv
  obtain ⟨-, ao, c, rfl, -, -, -⟩ := hv
  go_enter Try.func5, Try.ntmps5
  go_wp2_with fail
  refine (Box.new _).mono ?_
  rintro e w1 ⟨x, S1, rfl, hi1⟩
  obtain ⟨bx, hx⟩ : ∃ b, x = .pointer (some ⟨b, 0, none⟩) := by obtain ⟨b, _, _, _, _, _, _, h, _⟩ := hi1.rep; exact ⟨b, h⟩
  subst hx
  have H1 : Hid (Full w w1 (.pointer (some ⟨bx, 0, none⟩)) (fun _ => [])) := ⟨S1, by rw [tri_nil]; exact hi1⟩
  clear hi1
  have HBB := Lib.hid hb
  clear hb
  by_cases hlong : 100 < xs.length
  · have hl1 : (100 : Int) < (xs.length : Int) := by omega
    go_wp2_with fail
    refine (alive_any _).mono ?_
    rintro e w2 ⟨rfl, hb2⟩
    have H2 := Lib.hid (H1.out.later hb2)
    clear hb2 H1
    go_wp2
    go_ret
    exact ⟨rfl, H2.out.bel⟩
  · have hl1 : ¬ (100 : Int) < (xs.length : Int) := by omega
    have hl2 : xs.length ≤ 100 := by omega
    have H1L : Hid (Full w w1 (.pointer (some ⟨bx, 0, none⟩)) (fun k => pick xs k 0 0)) := H1.out.congr (fun j _ => (pick_nil xs j 0).symm)
    clear H1
    go_wp2
    go_loopw [31] (fun i w' => ∃ m : Nat, m ≤ xs.length ∧ i = .int .i64 m ∧ Hid (Full w w' (.pointer (some ⟨bx, 0, none⟩)) (fun k => pick xs k 0 m))) (fun i _ => xs.length - (RowKit.intOf i).toNat)
    case atStart => exact ⟨0, by omega, rfl, H1L⟩
    case round =>
      obtain ⟨m, hm, rfl, hL⟩ := hrel
      by_cases hlt : m < xs.length
      · obtain ⟨b, o, c', hv', hnc, -, hc⟩ := (HV.out.later hL.out.bel).at (by omega)
        cases hv'
        have hcell : wr.cell? ⟨b, o + m, none⟩ = some (.int .u8 (xs[m] : Nat)) := hc m _ (by simp [hlt])
        have hby := HBB.out xs[m] (List.getElem_mem hlt)
        have HY := Lib.hid (List.getElem?_eq_getElem hlt)
        clear hc
        generalize xs[m] = y at *
        obtain ⟨k, hk⟩ : ∃ k, k = y % 3 := ⟨_, rfl⟩
        have hmod : ((y : Int) % 3) = (k : Int) := by omega
        have hk3 : k < 3 := by omega
        have HK := Lib.hid hk
        clear hk
        go_wp2_with fail
        have hcv : ∀ (W : World) (b : Nat), W.cell? ⟨b, 0, none⟩ = some (.int .u8 (97 + (k : Int))) → (convert 22 9 (.slice (some ⟨b, 0, none⟩) 1 1)).run Try.prog W = .ok (.string (nm k)) W := fun W b h => conv_nm hk3 W b h
        have hwr : IntKind.u8.wrap (97 + (y : Int).tmod 3) = 97 + (k : Int) := by have : (y : Int).tmod 3 = (k : Int) := (by rw [Int.tmod_eq_emod_of_nonneg (by omega)]; exact hmod); rw [this]; exact IntWalk.u8_in _ (by omega)
        have HLEN : Hid ((pick xs k 0 m).length < 1000) := by have := pick_len xs k 0 m; rw [Hid]; omega
        go_region_with (first | (go_at_call 16; refine (number_exact _ _).mono ?_; rintro e w2 ⟨rfl, rfl⟩) | (go_at_call 15; refine ((hL.out.later (((Below.refl _ _).alloc (Nat.le_refl _) _).alloc (by simp) _).drew).put hk3 m HLEN.out).mono ?_; rintro e w3 ⟨rfl, hL3⟩; have HL3 := Lib.hid hL3; clear hL3))
        all_goals
          clear hcv hwr
          have HL4 : Hid (Full w w3 (.pointer (some ⟨bx, 0, none⟩)) (fun j => pick xs j 0 (m + 1))) := HL3.out.congr (fun j _ => by
            rw [pick_snoc xs j m y HY.out]
            by_cases hj : j = k
            · subst hj; rw [if_pos rfl, if_pos HK.out.symm]
            · rw [if_neg hj, if_neg (by rw [← HK.out]; exact fun h => hj h.symm), List.append_nil])
          clear HL3
          go_wp2
          go_roundw
          case rel => exact ⟨m + 1, by omega, by go_num, HL4⟩
          case measure => simp [RowKit.intOf]; omega
      · obtain rfl : m = xs.length := by omega
        have H2 : Hid (Full w wr (.pointer (some ⟨bx, 0, none⟩)) (fun j => if j < 0 then [] else pick xs j 0 xs.length)) := hL.out.congr (fun j _ => by rw [if_neg (by omega)])
        clear hL
        go_wp2
        go_loopw [50] (fun i w' => ∃ k : Nat, k ≤ 3 ∧ i = .int .i64 k ∧ Hid (Full w w' (.pointer (some ⟨bx, 0, none⟩)) (fun j => if j < k then [] else pick xs j 0 xs.length))) (fun i _ => 3 - (RowKit.intOf i).toNat)
        case atStart => exact ⟨0, by omega, rfl, H2⟩
        case round =>
          obtain ⟨k, hk, rfl, hL⟩ := hrel
          by_cases hlt : k < 3
          · have hcv : ∀ (W : World) (b : Nat), W.cell? ⟨b, 0, none⟩ = some (.int .u8 (97 + (k : Int))) → (convert 22 9 (.slice (some ⟨b, 0, none⟩) 1 1)).run Try.prog W = .ok (.string (nm k)) W := fun W b h => conv_nm hlt W b h
            have HLA : Hid (Full w (wr.alloc (.cells #[.int .u8 (97 + (k : Int))] 5)) (.pointer (some ⟨bx, 0, none⟩)) (fam xs k 0)) := (hL.out.later ((Below.refl _ _).alloc (Nat.le_refl _) _)).congr (fun j _ => fam_first xs k j)
            go_wp2
            clear hcv
            go_loopw [60] (fun i w' => ∃ m : Nat, m ≤ xs.length ∧ i = .int .i64 m ∧ Hid (Full w w' (.pointer (some ⟨bx, 0, none⟩)) (fam xs k m))) (fun i _ => xs.length - (RowKit.intOf i).toNat)
            case atStart => exact ⟨0, by omega, rfl, HLA⟩
            case round =>
              obtain ⟨m, hm, rfl, hL⟩ := hrel
              by_cases hltm : m < xs.length
              · obtain ⟨b, o, c', hv', hnc, -, hc⟩ := (HV.out.later hL.out.bel).at (by omega)
                cases hv'
                have hcell : wr.cell? ⟨b, o + m, none⟩ = some (.int .u8 (xs[m] : Nat)) := hc m _ (by simp [hltm])
                have hby := HBB.out xs[m] (List.getElem_mem hltm)
                have HY := Lib.hid (List.getElem?_eq_getElem hltm)
                clear hc
                generalize xs[m] = y at *
                have hmod : ((y : Int) % 3) = ((y % 3 : Nat) : Int) := by omega
                generalize hr : y % 3 = r at *
                by_cases hrk : r = k
                · subst hrk
                  have HP := Lib.hid (fam_hit xs hltm HY.out hr)
                  go_wp2_with fail
                  refine (hL.out.take hlt HP.out 0).mono ?_
                  rintro e w3 ⟨rfl, h3⟩
                  have H3 : Hid (Full w w3 (.pointer (some ⟨bx, 0, none⟩)) (fam xs r (m + 1))) := h3.congr (fun j _ => fam_hit2 xs r m j)
                  clear h3 hL
                  simp only [numV, leaf, VV.val]
                  go_wp2
                  go_roundw
                  case rel => exact ⟨m + 1, by omega, by go_num, H3.out.later ((Below.refl _ _).alloc (Nat.le_refl _) _)⟩
                  case measure => simp [RowKit.intOf]; omega
                · have H3 : Hid (Full w wr (.pointer (some ⟨bx, 0, none⟩)) (fam xs k (m + 1))) := hL.out.congr (fun j _ => fam_miss xs hltm HY.out (by rw [hr]; exact hrk) j)
                  have hne : ((r : Int) == (k : Int)) = false := by rw [beq_eq_false_iff_ne]; omega
                  have hne2 : ¬ ((r : Int) = (k : Int)) := by omega
                  go_wp2
                  go_roundw
                  case rel => exact ⟨m + 1, by omega, by go_num, H3⟩
                  case measure => simp [RowKit.intOf]; omega
              · obtain rfl : m = xs.length := by omega
                have HF := Lib.hid ((fam_at xs k xs.length).trans (pick_nil xs k xs.length))
                go_wp2_with fail
                refine (hL.out.none hlt HF.out).mono ?_
                rintro e w3 ⟨rfl, h3⟩
                have H3 := Lib.hid h3
                clear h3 hL
                go_wp2_with fail
                refine ((H3.out.later ((Below.refl _ _).alloc (Nat.le_refl _) _)).count hlt HF.out).mono ?_
                rintro e w4 ⟨rfl, rfl⟩
                have H4 : Hid (Full w (w3.alloc (.cells #[.int .i64 0, .int .i64 0, .float .f64 0, .string ⟨#[]⟩, .slice none 0 0] 31)) (.pointer (some ⟨bx, 0, none⟩)) (fun j => if j < k + 1 then [] else pick xs j 0 xs.length)) := (H3.out.later ((Below.refl _ _).alloc (Nat.le_refl _) _)).congr (fun j _ => fam_next xs k j)
                clear H3
                go_wp2
                go_roundw
                case rel => exact ⟨k + 1, by omega, by go_num, H4⟩
                case measure => simp [RowKit.intOf]; omega
          · obtain rfl : k = 3 := by omega
            have H4 : Hid (Full w wr (.pointer (some ⟨bx, 0, none⟩)) (fun _ => [])) := hL.out.congr (fun j hj => by rw [if_pos hj])
            clear hL
            go_wp2_with fail
            refine (alive_any _).mono ?_
            rintro e w5 ⟨rfl, hb⟩
            have H5 := Lib.hid (H4.out.later hb)
            clear hb H4
            go_wp2_with fail
            refine H5.out.names.mono ?_
            rintro e w6 ⟨ao6, c6, rfl, hb⟩
            have H6 := Lib.hid (H5.out.later hb)
            clear hb H5
            go_wp2
            go_ret
            exact ⟨rfl, H6.out.bel⟩
end Go.Proofs.Ytbofbboogmeneaa
