/- frame.Next: the record at the beginning of bytes, in a block of its own, and the length of its frame. -/
import Derived.Test.YtgdmdbdljmlkkaaGreatDoorFrame
import Derived.Deep.MidRow
import Derived.Laws.Cover3
namespace Go.Proofs.YtgdmdbdljmlkkaaGreatDoor
set_option linter.unusedVariables false
set_option linter.unusedSimpArgs false
open Go.RowKit

/-- What Next returns: nothing and zero, or a record in a block that is new and the length of its frame. -/
def NextP (w : World) (r : Option (List UInt8 × Nat)) : Ending → World → Prop := fun e w' =>
  (match r with
  | none => e = .returned (.tuple #[.slice none 0 0, .int .i64 0])
  | some (x, n) => ∃ a c, e = .returned (.tuple #[.slice a x.length c, .int .i64 n]) ∧ Row w' 5 1 (.slice a x.length c) x.length (byts x) (fun k => w.heap.size ≤ k)) ∧ Below w.heap.size w w'

theorem Row.dropN {w : World} {T : TypeId} {S : Nat → Prop} {g o n c : Nat} {xs : List Value} (h : Row w T 1 (.slice (some ⟨g, o, none⟩) n c) n xs S) (i : Nat) (hi : i ≤ n) (ao : Option Addr) (hao : ao = some ⟨g, o + i, none⟩ ∨ (c = i ∧ ao = some ⟨g, o, none⟩)) :
    Row w T 1 (.slice ao (n - i) (c - i)) (n - i) (xs.drop i) S := by
  obtain ⟨hl, h⟩ := h
  rcases h with ⟨hv, hn⟩ | ⟨g', o', c', cur, hv, hS, hg, hnc, hcm, hsz, hx⟩
  · cases hv
  cases hv
  refine ⟨by rw [List.length_drop, hl]; omega, .inr ?_⟩
  rcases hao with rfl | ⟨hc, rfl⟩
  · refine ⟨g, o + i, c - i, cur, rfl, hS, hg, by omega, by omega, by omega, ?_⟩
    rw [← hx, List.drop_take, List.drop_drop]
    congr 1; omega
  · refine ⟨g, o, c - i, cur, rfl, hS, hg, by omega, by omega, by omega, ?_⟩
    have e : n - i = 0 := by omega
    rw [e, Nat.zero_mul, List.take_zero, List.drop_eq_nil_of_le (by omega)]

set_option maxRecDepth 100000 in
theorem next_any (ba : Option Addr) (bc : Nat) (l : List UInt8) (w : World) (h : Reads w (.slice ba l.length bc) l.length 1 (byts l)) (hl : l.length ≤ 100000) :
    Calls Tryz.prog 163 #[.slice ba l.length bc] w (NextP w (nextB l)) := by
  have HR := Lib.hid h
  have hcap : l.length ≤ bc := by obtain ⟨_, ao, c, hv, hle, _⟩ := h; cases hv; exact hle
  clear h
  obtain ⟨Q, hQ⟩ : ∃ Q, Q = NextP w (nextB l) := ⟨_, rfl⟩
  have HQD := Lib.hid hQ
  rw [← hQ]
  clear hQ
  by_cases h8 : l.length < 8
  · have HQ : Hid (Q (.returned (.tuple #[.slice none 0 0, .int .i64 0])) w) := by
      rw [HQD.out, Hid]; unfold nextB; rw [if_pos h8]; exact ⟨rfl, Below.refl _ _⟩
    go_enter Tryz.func163, Tryz.ntmps163
    go_wp2
    exact HQ.out
  · obtain ⟨c0, c1, c2, c3, r, hlr⟩ : ∃ c0 c1 c2 c3 r, l = c0 :: c1 :: c2 :: c3 :: r := by
      match l, h8 with
      | c0 :: c1 :: c2 :: c3 :: r, _ => exact ⟨c0, c1, c2, c3, r, rfl⟩
      | [], h => simp at h
      | [_], h => simp at h
      | [_, _], h => simp at h
      | [_, _, _], h => simp at h
    have HNK : Hid (numK c0.toNat c1.toNat c2.toNat c3.toNat 4 = num4 l) := by rw [hlr, Hid]; rfl
    obtain ⟨g, o, c, hv, hnc, hg, hat⟩ := HR.out.at (by omega)
    cases hv
    have HLD : Hid (w.rangeAt g o [.int .u8 c0.toNat, .int .u8 c1.toNat, .int .u8 c2.toNat, .int .u8 c3.toNat]) := by
      intro j v hj
      refine hat j v ?_
      rw [hlr]
      match j, hj with
      | 0, hj => simpa [byts, u8v] using hj
      | 1, hj => simpa [byts, u8v] using hj
      | 2, hj => simpa [byts, u8v] using hj
      | 3, hj => simpa [byts, u8v] using hj
      | j + 4, hj => simp at hj
    have HNB : Hid (nextB l = if 1048576 < num4 l ∨ l.length < num4 l + 8 then none else match openB (l.take (num4 l + 8)) with
      | none => none
      | some x => some (x.drop 4, num4 l + 8)) := by rw [Hid]; unfold nextB; rw [if_neg h8]; rfl
    have HC := Lib.hid (fnumber_any c0 c1 c2 c3 w)
    rw [HNK.out] at HC
    have HN4 : Hid (num4 l ≤ 4294967296) := by rw [← HNK.out, Hid]; unfold numK; have := c0.toNat_lt; have := c1.toNat_lt; have := c2.toNat_lt; have := c3.toNat_lt; simp only; omega
    obtain ⟨n, hn⟩ : ∃ n, n = num4 l := ⟨_, rfl⟩
    rw [← hn] at HC HNB HN4
    have HOP : Hid (∀ w1, Below w.heap.size w w1 → n + 8 ≤ l.length → Calls Tryz.prog 197 #[.slice (some ⟨g, o, none⟩) (n + 8) bc] w1 (BytesP w1 (openB (l.take (n + 8))))) := by
      intro w1 hb1 hle
      have hT := (HR.out.later hb1).takeB (n + 8) hle
      have he : (l.take (n + 8)).length = n + 8 := by rw [List.length_take]; omega
      have := open_any (some ⟨g, o, none⟩) bc (l.take (n + 8)) w1 hT (by omega)
      rwa [he] at this
    have HOL : Hid (n + 8 ≤ l.length → ∀ x, openB (l.take (n + 8)) = some x → x.length = n + 4) := by
      intro hle x hx
      have he : (l.take (n + 8)).length = n + 8 := by rw [List.length_take]; omega
      unfold openB at hx
      split at hx
      · cases hx; rw [List.length_take, he]; omega
      · cases hx
    obtain ⟨ln, hln⟩ : ∃ ln, ln = l.length := ⟨_, rfl⟩
    have HLN := Lib.hid hln
    rw [← hln] at hl hcap h8 HNB HOP HOL hnc ⊢
    clear HR hlr hat HNK hn hln
    have hat : ∀ w, (Instr.arrayAt 186 (.slice (some ⟨g, o, none⟩) ln bc)).run Tryz.prog w = .ok (.pointer (some ⟨g, o, none⟩)) w := fun w => run_arrayAt w _ _ 4 _ ln bc Tryz.underlying186 (by omega)
    have hc0 : w.cell? ⟨g, o, none⟩ = some (.int .u8 c0.toNat) := HLD.out 0 _ rfl
    have hc1 : w.cell? ⟨g, o + 1, none⟩ = some (.int .u8 c1.toNat) := HLD.out 1 _ rfl
    have hc2 : w.cell? ⟨g, o + 2, none⟩ = some (.int .u8 c2.toNat) := HLD.out 2 _ rfl
    have hc3 : w.cell? ⟨g, o + 3, none⟩ = some (.int .u8 c3.toNat) := HLD.out 3 _ rfl
    have hn4 := HN4.out
    by_cases hbig : 1048576 < n
    · go_enter Tryz.func163, Tryz.ntmps163
      go_wp2_with (simp only [hat])
      refine HC.out.mono ?_
      rintro e w1 ⟨rfl, hb1⟩
      have HB1 := Lib.hid hb1
      have HQ1 : Hid (Q (.returned (.tuple #[.slice none 0 0, .int .i64 0])) w1) := by
        rw [HQD.out, Hid, HNB.out, if_pos (.inl hbig)]; exact ⟨rfl, HB1.out⟩
      clear hb1 HC
      go_wp2
      exact HQ1.out
    · by_cases hsh : ln < n + 8
      · go_enter Tryz.func163, Tryz.ntmps163
        go_wp2_with (simp only [hat])
        refine HC.out.mono ?_
        rintro e w1 ⟨rfl, hb1⟩
        have HB1 := Lib.hid hb1
        have HQ1 : Hid (Q (.returned (.tuple #[.slice none 0 0, .int .i64 0])) w1) := by
          rw [HQD.out, Hid, HNB.out, if_pos (.inr hsh)]; exact ⟨rfl, HB1.out⟩
        clear hb1 HC
        go_wp2
        exact HQ1.out
      · have HLE := Lib.hid (show n + 8 ≤ ln by omega)
        go_enter Tryz.func163, Tryz.ntmps163
        go_wp2_with (simp only [hat])
        refine HC.out.mono ?_
        rintro e w1 ⟨rfl, hb1⟩
        have HB1 := Lib.hid hb1
        have HOP1 := Lib.hid (HOP.out w1 hb1 HLE.out)
        have HOL1 := Lib.hid (HOL.out HLE.out)
        have HNB1 : Hid (nextB l = match openB (l.take (n + 8)) with
          | none => none
          | some x => some (x.drop 4, n + 8)) := by rw [Hid, HNB.out, if_neg (by omega)]
        clear hb1 HC HOP HOL HNB
        generalize l.take (n + 8) = lt at *
        cases hop : openB lt with
        | none =>
          rw [hop] at HOP1 HNB1
          go_wp2_with fail
          refine HOP1.out.mono ?_
          rintro e w2 ⟨rfl, hb2⟩
          have HQ1 : Hid (Q (.returned (.tuple #[.slice none 0 0, .int .i64 0])) w2) := by
            rw [HQD.out, Hid, HNB1.out]; exact ⟨rfl, HB1.out.trans (hb2.mono HB1.out.size)⟩
          clear hb2 HOP1
          go_wp2
          exact HQ1.out
        | some x =>
          have HX := Lib.hid (HOL1.out x hop)
          rw [hop] at HOP1 HNB1
          clear HOL1 hop
          go_wp2_with fail
          refine HOP1.out.mono ?_
          rintro e w2 ⟨⟨a, c2, rfl, hrow⟩, hb2⟩
          rw [HX.out] at hrow ⊢
          have hrow2 := hrow
          obtain ⟨g1, o1, c1', cur, hv, -, -, hnc1, -⟩ := hrow2.open (by omega)
          cases hv
          have hd := fun ao hao => hrow.dropN 4 (by omega) ao hao
          have HQ1 : Hid (∀ ao, (ao = some ⟨g1, o1 + 4, none⟩ ∨ (c2 = 4 ∧ ao = some ⟨g1, o1, none⟩)) → Q (.returned (.tuple #[.slice ao n (c2 - 4), .int .i64 ((n : Int) + 8)])) w2) := by
            intro ao hao
            have h1 := hd ao hao
            rw [HQD.out, HNB1.out]
            have e1 : (x.drop 4).length = n := by rw [List.length_drop, HX.out]; omega
            refine ⟨⟨ao, c2 - 4, by rw [e1]; rfl, ?_⟩, HB1.out.trans (hb2.mono HB1.out.size)⟩
            rw [e1]
            have hs := HB1.out.size
            have : n + 4 - 4 = n := by omega
            rw [this] at h1
            unfold byts at h1 ⊢
            rw [List.map_drop]
            exact h1.mono (fun k hk => by omega)
          clear hb2 HOP1 hd hrow hrow2
          go_wp2_with fail
          all_goals first
            | exact HQ1.out _ (.inl rfl)
            | exact HQ1.out _ (.inr ⟨by omega, rfl⟩)
            | (have h4 : c2 = 4 := by omega
               subst h4
               exact HQ1.out _ (.inr ⟨rfl, rfl⟩))
end Go.Proofs.YtgdmdbdljmlkkaaGreatDoor
