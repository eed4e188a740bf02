/- The law InboxWaits walks. -/
import Derived.Test.YtbofbboogmeneaaSliceU
namespace Go.Proofs.Ytbofbboogmeneaa
set_option linter.unusedVariables false
set_option linter.unusedSimpArgs false
open Go.RowKit

/-- The line behind the first m of the law's numbers. -/
def lineOf (xs : List Nat) : List Nat := xs.foldl (fun l b => join l (b % 20)) []
theorem lineOf_snoc (xs : List Nat) (m : Nat) (h : m < xs.length) : lineOf (xs.take (m + 1)) = join (lineOf (xs.take m)) (xs[m] % 20) := by
  unfold lineOf
  rw [List.take_succ_eq_append_getElem h, List.foldl_append]; rfl
theorem lineOf_len (xs : List Nat) : (lineOf xs).length ≤ xs.length := by
  have : ∀ (xs l : List Nat), (xs.foldl (fun l b => join l (b % 20)) l).length ≤ l.length + xs.length := by
    intro xs
    induction xs with
    | nil => intro l; simp
    | cons a xs ih => intro l; simp only [List.foldl_cons, List.length_cons]; have := ih (join l (a % 20)); have := join_len l (a % 20); omega
  have h := this xs []
  unfold lineOf
  simpa using h
theorem lineOf_nodup (xs : List Nat) : (lineOf xs).Nodup := by
  have : ∀ (xs l : List Nat), l.Nodup → (xs.foldl (fun l b => join l (b % 20)) l).Nodup := by
    intro xs
    induction xs with
    | nil => intro l h; exact h
    | cons a xs ih => intro l h; exact ih _ (join_nodup h _)
  exact this xs [] List.nodup_nil

/-- What the first loop keeps. -/
def Lining (w w' : World) (x want : Value) (l : List Nat) : Prop :=
  ∃ S R, Box w w' x (fun _ => []) (lineA l) (whoA l) S ∧ Row w' 27 1 want l.length (u64V l) R ∧ ∀ k, R k → w.heap.size ≤ k ∧ k < w'.heap.size ∧ ¬ S k

theorem Lining.later {w w' w'' : World} {x want : Value} {l : List Nat} (h : Lining w w' x want l) (hb : Below w'.heap.size w' w'') : Lining w w'' x want l := by
  obtain ⟨S, R, h1, h2, h3⟩ := h
  exact ⟨S, R, h1.later hb, h2.frame (fun k _ hk => hb.block k hk), fun k hk => ⟨(h3 k hk).1, Nat.lt_of_lt_of_le (h3 k hk).2.1 hb.size, (h3 k hk).2.2⟩⟩

theorem Box.other {w0 w w' : World} {x : Value} {V : ByteArray → List VV} {Q : ByteArray → List Nat} {W : Nat → Option ByteArray} {S R : Nat → Prop} (h : Box w0 w x V Q W S) (hc : Chg R w w') (hR : ∀ k, R k → ¬ S k ∧ w0.heap.size ≤ k) : Box w0 w' x V Q W S :=
  ⟨h.rep.frame (fun k hk hl => hc.block k hl (fun hr => (hR k hr).1 hk)), h.bel.trans (hc.toBelow h.bel.size (fun n hn hr => by have := (hR n hr).2; omega)), fun k hk => ⟨(h.low k hk).1, Nat.lt_of_lt_of_le (h.low k hk).2 hc.size⟩⟩

/-- What the second loop keeps: q of those in the list l still wait. -/
def Lined (w w' : World) (x want : Value) (l q : List Nat) : Prop :=
  ∃ S R, Box w w' x (fun _ => []) (lineA q) (whoA q) S ∧ Row w' 27 1 want l.length (u64V l) R ∧ ∀ k, R k → w.heap.size ≤ k ∧ k < w'.heap.size ∧ ¬ S k

theorem Lined.later {w w' w'' : World} {x want : Value} {l q : List Nat} (h : Lined w w' x want l q) (hb : Below w'.heap.size w' w'') : Lined w w'' x want l q := by
  obtain ⟨S, R, h1, h2, h3⟩ := h
  exact ⟨S, R, h1.later hb, h2.frame (fun k _ hk => hb.block k hk), fun k hk => ⟨(h3 k hk).1, Nat.lt_of_lt_of_le (h3 k hk).2.1 hb.size, (h3 k hk).2.2⟩⟩
theorem Lined.reads {w w' : World} {x want : Value} {l q : List Nat} (h : Lined w w' x want l q) : Reads w' want l.length 1 (u64V l) := by
  obtain ⟨S, R, h1, h2, h3⟩ := h
  exact h2.reads
theorem Lined.bel {w w' : World} {x want : Value} {l q : List Nat} (h : Lined w w' x want l q) : Below w.heap.size w w' := by
  obtain ⟨S, R, h1, h2, h3⟩ := h
  exact h1.bel
theorem Lined.put {w w' : World} {x want : Value} {l q : List Nat} {a : Nat} (h : Lined w w' x want l (a :: q)) (hn : (a :: q).Nodup) (v : VV) :
    Calls Try.prog 15 #[x, .string nameA, v.val] w' fun e w'' => e = .returned (.tuple #[.int .u64 a, .bool true]) ∧ Lined w w'' x want l q := by
  obtain ⟨S, R, h1, h2, h3⟩ := h
  refine (h1.called hn v).mono fun e w2 ⟨he, S2, hb, hs, hc⟩ => ⟨he, S2, R, hb, h2.frame (fun k hk hl => hc.block k hl (h3 k hk).2.2), fun k hk => ⟨(h3 k hk).1, Nat.lt_of_lt_of_le (h3 k hk).2.1 hc.size, fun h => ?_⟩⟩
  rcases hs k h with h | h
  · exact (h3 k hk).2.2 h
  · have := (h3 k hk).2.1; omega

set_option maxRecDepth 100000 in
set_option maxHeartbeats 1000000 in
theorem waits_any (v : Value) (xs : List Nat) (w : World) (hv : Reads w v xs.length 1 (xs.map fun b : Nat => Value.int .u8 (b : Int))) (hb : ∀ b ∈ xs, b < 256) :
    Calls Try.prog 3 #[v] w fun e w' => e = .returned (.bool true) ∧ Below w.heap.size w w' := by
  have HV := Lib.hid hv
  obtain ⟨-, ao, c, rfl, -, -, -⟩ := hv
  go_enter Try.func3, Try.ntmps3
  go_wp2_with fail
  refine (Box.new _).mono ?_
  rintro e w1 ⟨x, S1, rfl, hi1⟩
  have H1 := Lib.hid hi1
  obtain ⟨bx, hx⟩ : ∃ b, x = .pointer (some ⟨b, 0, none⟩) := by obtain ⟨b, _, _, _, _, _, _, h, _⟩ := hi1.rep; exact ⟨b, h⟩
  subst hx
  clear hi1
  have HBB := Lib.hid hb
  clear hb
  by_cases hlong : 100 < xs.length
  · have hl1 : (100 : Int) < (xs.length : Int) := by omega
    go_wp2_with fail
    refine (alive_any _).mono ?_
    rintro e w2 ⟨rfl, hb2⟩
    have H2 := Lib.hid (H1.out.later hb2)
    clear hb2 H1
    go_wp2
    go_ret
    exact ⟨rfl, H2.out.bel⟩
  · have hl1 : ¬ (100 : Int) < (xs.length : Int) := by omega
    have hl2 : xs.length ≤ 100 := by omega
    have H1L : Hid (Lining w w1 (.pointer (some ⟨bx, 0, none⟩)) (.slice none 0 0) (lineOf (xs.take 0))) := by
      refine ⟨S1, fun _ => False, ?_, Row.nil _ _ _ _, fun k hk => hk.elim⟩
      have h := H1.out
      rw [lineA_nil, whoA_nil] at h
      have e0 : (fun _ : ByteArray => ([] : List VV)) = fun _ => [] := rfl
      exact h
    clear H1
    go_wp2
    go_loopw [4, 31] (fun want i w' => ∃ m : Nat, m ≤ xs.length ∧ i = .int .i64 m ∧ Hid (Lining w w' (.pointer (some ⟨bx, 0, none⟩)) want (lineOf (xs.take m)))) (fun _ i _ => xs.length - (RowKit.intOf i).toNat)
    case atStart => exact ⟨0, by omega, rfl, H1L⟩
    case round =>
      obtain ⟨m, hm, rfl, hL⟩ := hrel
      by_cases hlt : m < xs.length
      · obtain ⟨S, R, hbox, hrow, hRS⟩ := hL.out
        obtain ⟨b, o, c', hv', hnc, -, hc⟩ := (HV.out.later hbox.bel).at (by omega)
        cases hv'
        have hcell : wr.cell? ⟨b, o + m, none⟩ = some (.int .u8 (xs[m] : Nat)) := hc m _ (by simp [hlt])
        have hby := HBB.out xs[m] (List.getElem_mem hlt)
        have HSN := Lib.hid (lineOf_snoc xs m hlt)
        have HLEN := Lib.hid (lineOf_len (xs.take m))
        clear hc
        generalize xs[m] = y at *
        have hlen2 : (lineOf (xs.take m)).length ≤ m := by have := HLEN.out; rw [List.length_take] at this; omega
        have HSN2 := Lib.hid HSN.out
        generalize lineOf (xs.take m) = l at *
        obtain ⟨l2, hl2e⟩ : ∃ l2, l2 = lineOf (xs.take (m + 1)) := ⟨_, rfl⟩
        have HL2 := Lib.hid hl2e
        clear hl2e
        obtain ⟨id, hid⟩ : ∃ id, id = y % 20 := ⟨_, rfl⟩
        have hmod : ((y : Int) % 20) = (id : Int) := by omega
        have HSN3 : Hid (l2 = join l id) := by rw [Hid, HL2.out, hid]; exact HSN.out
        have HBOX := Lib.hid hbox
        have HROW := Lib.hid hrow
        have HRS := Lib.hid hRS
        obtain ⟨-, aw, cw, rfl, -, -, -⟩ := hrow.reads
        clear hbox hrow hRS hL HSN HSN2 hid
        go_wp2_with fail
        rw [hmod]
        refine (HBOX.out.line rfl id (by omega)).mono ?_
        rintro e w3 ⟨rfl, S3, hb3, hs3, hc3⟩
        have HB3 := Lib.hid hb3
        have HR3 := Lib.hid (HROW.out.frame (fun k hk hl => hc3.block k hl (HRS.out k hk).2.2))
        have HRS3 : Hid (∀ k, R k → w.heap.size ≤ k ∧ k < w3.heap.size ∧ ¬ S3 k) := fun k hk => ⟨(HRS.out k hk).1, Nat.lt_of_lt_of_le (HRS.out k hk).2.1 hc3.size, fun h => by
          rcases hs3 k h with h | h
          · exact (HRS.out k hk).2.2 h
          · have := (HRS.out k hk).2.1; omega⟩
        clear hb3 hs3 hc3 hcell HBOX HROW HRS hmod
        have HBA := Lib.hid ((Below.refl w3.heap.size w3).alloc (Nat.le_refl _) (.cells #[.int .i64 0, .int .i64 0, .float .f64 0, .string ⟨#[]⟩, .slice none 0 0] 31))
        by_cases h0 : id = 0
        · have hE : join l id = l := if_pos (.inl h0)
          rw [hE] at HB3 HSN3
          have hL3 : Lining w w3 (.pointer (some ⟨bx, 0, none⟩)) (.slice aw l.length cw) l := ⟨S3, R, HB3.out, HR3.out, HRS3.out⟩
          have HL4 := Lib.hid (hL3.later HBA.out)
          have HL5 : Hid (l = lineOf (xs.take (m + 1))) := by rw [Hid, ← HL2.out]; exact HSN3.out.symm
          clear hL3 hE
          subst h0
          go_wp2_with fail
          go_roundw
          case rel => exact ⟨m + 1, by omega, by go_num, by rw [← HL5.out]; exact HL4.out⟩
          case measure => simp [RowKit.intOf]; omega
        · have h1 : ((id : Int) == 0) = false := by rw [beq_eq_false_iff_ne]; omega
          go_wp2_with fail
          refine (scontains_any _ l id _ (HR3.out.reads.later HBA.out) (by omega)).mono ?_
          rintro e w4 ⟨rfl, rfl⟩
          by_cases hm1 : id ∈ l
          · have hE : join l id = l := if_pos (.inr hm1)
            rw [hE] at HB3 HSN3
            have hL3 : Lining w w3 (.pointer (some ⟨bx, 0, none⟩)) (.slice aw l.length cw) l := ⟨S3, R, HB3.out, HR3.out, HRS3.out⟩
            have HL4 := Lib.hid (hL3.later HBA.out)
            have HL5 : Hid (l = lineOf (xs.take (m + 1))) := by rw [Hid, ← HL2.out]; exact HSN3.out.symm
            rw [show l.elem id = true by simpa using hm1]
            clear hL3 hE
            go_wp2_with fail
            go_roundw
            case rel => exact ⟨m + 1, by omega, by go_num, by rw [← HL5.out]; exact HL4.out⟩
            case measure => simp [RowKit.intOf]; omega
          · have hE : join l id = l ++ [id] := if_neg (by rintro (h | h); exact h0 h; exact hm1 h)
            rw [hE] at HB3 HSN3
            rw [show l.elem id = false by simpa using hm1]
            have HRA := Lib.hid (HR3.out.frame (fun k _ hk => HBA.out.block k hk))
            clear hE
            go_wp2_with (at_builtin; refine wpList_row elemU64 rfl rfl (S := R) (v := .slice aw l.length cw) rfl (HRA.out.frame (fun k _ hk => Below.heap_alloc _ _ _ hk)) (y := .slice (some ⟨_, 0, none⟩) 1 1) (m := 1) (news := [.int .u64 id]) rfl (reads_cell (by simp)) (one_of rfl) (by unfold maxLen; omega) (by omega) ?_)
            intro v5 w5 hr5 hch5
            have hc5 : Chg R w3 w5 := (((Chg.refl R w3).alloc (.cells #[.int .i64 0, .int .i64 0, .float .f64 0, .string ⟨#[]⟩, .slice none 0 0] 31)).alloc (.cells #[.int .u64 id] 27)).trans hch5 (fun k hk => .inl hk)
            have hw3 : w.heap.size ≤ w3.heap.size := HB3.out.bel.size
            have hL5 : Lining w w5 (.pointer (some ⟨bx, 0, none⟩)) v5 (l ++ [id]) := by
              refine ⟨S3, fun k => (R k ∨ w3.heap.size ≤ k) ∧ k < w5.heap.size, HB3.out.other hc5 (fun k hk => ⟨(HRS3.out k hk).2.2, (HRS3.out k hk).1⟩), ?_, fun k hk => ⟨?_, hk.2, fun hS => ?_⟩⟩
              · rw [u64V_snoc, show (l ++ [id]).length = l.length + 1 by simp]
                exact (hr5.mono (T := fun k => R k ∨ w3.heap.size ≤ k) (fun k hk => by rcases hk with h | h; exact .inl h; exact .inr (by omega))).tight
              · rcases hk.1 with h | h
                · exact (HRS3.out k h).1
                · omega
              · rcases hk.1 with h | h
                · exact (HRS3.out k h).2.2 hS
                · have := (HB3.out.low k hS).2; omega
            have HL4 := Lib.hid hL5
            have HL5 : Hid (l ++ [id] = lineOf (xs.take (m + 1))) := by rw [Hid, ← HL2.out]; exact HSN3.out.symm
            obtain ⟨ao5, c5, hv5⟩ : ∃ ao5 c5, v5 = .slice ao5 (l.length + 1) c5 := by obtain ⟨-, ao5, c5, h, -⟩ := hr5.reads; exact ⟨ao5, c5, h⟩
            clear hr5 hch5 hc5 hL5
            go_wp2
            go_roundw
            case rel => exact ⟨m + 1, by omega, by go_num, by rw [← HL5.out]; exact HL4.out⟩
            case measure => simp [RowKit.intOf]; omega
      · obtain rfl : m = xs.length := by omega
        have hL2 := hL.out
        rw [List.take_length] at hL2
        have hlen : (lineOf xs).length ≤ 100 := Nat.le_trans (lineOf_len xs) hl2
        have HND := Lib.hid (lineOf_nodup xs)
        generalize lineOf xs = l at *
        have HL := Lib.hid (show Lined w wr (.pointer (some ⟨bx, 0, none⟩)) _ l l from hL2)
        clear hL hL2 HV
        obtain ⟨-, aw, cw, rfl, -, -, -⟩ := HL.out.reads
        go_wp2_with fail
        obtain ⟨S, R, hbox, -, -⟩ := HL.out
        refine (iwaiting_any _ nameA _ _ _ _ _ hbox.rep).mono ?_
        rintro e w3 ⟨u, rfl, h1, hb⟩
        rw [lineA_at] at h1
        have HU := Lib.hid (Row.ofOwns h1).reads
        have HL3 := Lib.hid (HL.out.later hb)
        clear hbox h1 hb HL
        go_wp2_with fail
        refine (sequal_same _ _ l _ HU.out HL3.out.reads (by omega)).mono ?_
        rintro e w4 ⟨rfl, n, rfl⟩
        have HL4 : Hid (Lined w (w3.drewN n) (.pointer (some ⟨bx, 0, none⟩)) (.slice aw l.length cw) l (l.drop 0)) := HL3.out.later (((Chg.refl (fun _ => False) _).drewN n).toBelow (Nat.le_refl _) (fun _ _ h => h))
        clear HU HL3
        generalize w3.drewN n = w4 at *
        go_wp2
        go_loopw [65] (fun i w' => ∃ m : Nat, m ≤ l.length ∧ i = .int .i64 m ∧ Hid (Lined w w' (.pointer (some ⟨bx, 0, none⟩)) (.slice aw l.length cw) l (l.drop m))) (fun i _ => l.length - (RowKit.intOf i).toNat)
        case atStart => exact ⟨0, by omega, rfl, HL4⟩
        case round =>
          obtain ⟨m, hm, rfl, hL⟩ := hrel
          by_cases hlt : m < l.length
          · obtain ⟨b, o, c', hv', hnc, -, hc⟩ := hL.out.reads.at (by omega)
            cases hv'
            have hcell : wr.cell? ⟨b, o + m, none⟩ = some (.int .u64 (l[m] : Nat)) := hc m _ (by simp [hlt])
            have HN : Hid ((l[m] :: l.drop (m + 1)).Nodup) := by rw [Hid, ← List.drop_eq_getElem_cons hlt]; exact HND.out.sublist (List.drop_sublist _ _)
            have HL5 : Hid (Lined w wr (.pointer (some ⟨bx, 0, none⟩)) (.slice (some ⟨b, o, none⟩) l.length cw) l (l[m] :: l.drop (m + 1))) := by rw [Hid, ← List.drop_eq_getElem_cons hlt]; exact hL.out
            clear hc hL
            generalize l[m] = y at *
            obtain ⟨q, hq⟩ : ∃ q, q = l.drop (m + 1) := ⟨_, rfl⟩
            have HQ := Lib.hid hq
            rw [← hq] at HN HL5
            clear hq
            go_wp2_with fail
            refine (number_any 1 _).mono ?_
            rintro e w5 ⟨rfl, hb⟩
            have HL6 := Lib.hid (HL5.out.later hb)
            clear hb HL5
            generalize hn1 : (numV 1).val = v1
            have HN1 := Lib.hid hn1
            clear hn1
            go_wp2_with fail
            obtain rfl := HN1.out
            refine (HL6.out.put HN.out (numV 1)).mono ?_
            rintro e w6 ⟨rfl, h6⟩
            have HL7 := Lib.hid h6
            clear h6 HL6 HN1
            go_wp2
            go_roundw
            case rel => exact ⟨m + 1, by omega, by go_num, by rw [← HQ.out]; exact HL7.out⟩
            case measure => simp [RowKit.intOf]; omega
          · obtain rfl : m = l.length := by omega
            have hL2 := hL.out
            rw [List.drop_length] at hL2
            have HL := Lib.hid hL2
            clear hL hL2
            go_wp2_with fail
            refine (number_any 2 _).mono ?_
            rintro e w5 ⟨rfl, hb⟩
            have HL6 := Lib.hid (HL.out.later hb)
            clear hb HL
            generalize hn1 : (numV 2).val = v1
            have HN1 := Lib.hid hn1
            clear hn1
            go_wp2_with fail
            obtain ⟨S, R, hbox, -, -⟩ := HL6.out
            have hk := hbox.keep nameA 2 (lineA_at []) (by simp)
            rw [HN1.out] at hk
            refine hk.mono ?_
            clear hk
            rintro e w6 ⟨rfl, S6, hb, -, -⟩
            have H6 := Lib.hid hb
            clear hb HL6 hbox
            go_wp2_with fail
            refine (alive_any _).mono ?_
            rintro e w7 ⟨rfl, hb⟩
            have H7 := Lib.hid (H6.out.later hb)
            clear hb H6
            go_wp2_with fail
            refine (icount_any _ nameA _ _ _ _ _ H7.out.rep).mono ?_
            rintro e w8 ⟨rfl, rfl⟩
            rw [upd_same]
            go_wp2
            go_ret
            exact ⟨rfl, H7.out.bel⟩
end Go.Proofs.Ytbofbboogmeneaa
