/- The reference's word. -/
import Derived.Test.YtpijpeocdlnhiaaGreatDoorTRefU
import Derived.Test.YtpijpeocdlnhiaaGreatDoorTList
namespace Go.Proofs.YtpijpeocdlnhiaaGreatDoor
set_option linter.unusedVariables false
set_option linter.unusedSimpArgs false
open Go.RowKit

theorem byte_ne {b : UInt8} (h : b ≠ 35) : ((b.toNat : Int) == 35) = false := by
  rw [beq_eq_false_iff_ne]
  intro e
  exact h (UInt8.toNat.inj (by show b.toNat = 35; omega))
theorem byte_ne2 {b : UInt8} (h : b ≠ 34) : ((b.toNat : Int) == 34) = false := by
  rw [beq_eq_false_iff_ne]
  intro e
  exact h (UInt8.toNat.inj (by show b.toNat = 34; omega))
set_option maxRecDepth 100000 in
theorem atom_post {w wr : World} {t : VT} {ac : Act} {b : Bool} {p : VT × Bool} (hN : wr.heap[w.heap.size]? = some (.cells #[.int .i64 0, .int .i64 0, .float .f64 0, .string ⟨#[]⟩, .slice none 0 0] 26 (0, 0)))
    (hB : Below w.heap.size w wr) (hp : p = (t, b)) (h2 : ac.tmps.getD 2 undef = .pointer (some ⟨w.heap.size, 0, none⟩)) (h3 : ac.tmps.getD 3 undef = .bool b) (hd : ac.defers = []) :
    bodyPost Tryz.prog Tryz.f70 (fun e w' => e = .returned (.tuple #[atomV p.1, .bool p.2]) ∧ Below w.heap.size w w') .ret ac (((((wr.setCell ⟨w.heap.size, 0, none⟩ (.int .i64 t.k)).setCell ⟨w.heap.size, 1, none⟩ (.int .i64 t.n)).setCell ⟨w.heap.size, 2, none⟩ (.float .f64 t.f)).setCell ⟨w.heap.size, 3, none⟩ (.string t.s)).setCell ⟨w.heap.size, 4, none⟩ (.slice none 0 0)) := by
  have hr := results_row_tmp (P := Tryz.prog) (fn := Tryz.f70) (u := 3) rfl ac.tmps _ w.heap.size 26 _ (0, 0) _ h2 (set5 hN rfl (.int .i64 t.k) (.int .i64 t.n) (.float .f64 t.f) (.string t.s) (.slice none 0 0)) Tryz.underlying26 rfl rfl
  rw [h3] at hr
  refine bodyPost_ret hr hd ?_
  subst hp
  exact ⟨rfl, bel5 hB (Nat.le_refl _) _ _ _ _ _⟩
set_option maxRecDepth 100000 in
set_option maxHeartbeats 4000000 in
theorem ratom_any (s : ByteArray) (hs : s.size ≤ 1000000) (w : World) :
    Calls Tryz.prog 70 #[.string s] w fun e w' => e = .returned (.tuple #[atomV (atomR s.data.toList).1, .bool (atomR s.data.toList).2]) ∧ Below w.heap.size w w' := by
  have HX : Hid ((w.alloc (.cells #[.int .i64 0, .int .i64 0, .float .f64 0, .string ⟨#[]⟩, .slice none 0 0] 26)).heap[w.heap.size]? = some (.cells #[.int .i64 0, .int .i64 0, .float .f64 0, .string ⟨#[]⟩, .slice none 0 0] 26 (0, 0))) := heap_alloc_new _ _
  have HB1 : Hid (Below w.heap.size w (w.alloc (.cells #[.int .i64 0, .int .i64 0, .float .f64 0, .string ⟨#[]⟩, .slice none 0 0] 26))) := (Below.refl _ _).alloc (Nat.le_refl _) _
  have HNU := Lib.hid (rnumber_any s hs)
  obtain ⟨p, hp⟩ : ∃ p, p = atomR s.data.toList := ⟨_, rfl⟩
  rw [← hp]
  by_cases hnil : s = ⟨#[110, 105, 108]⟩
  · have HP : Hid (p = (zeroT, true)) := by rw [Hid, hp, hnil]; rfl
    clear hp
    subst hnil
    go_enter Tryz.func70, Tryz.ntmps70
    go_upto_region 1 with fail
    generalize (w.alloc (.cells #[.int .i64 0, .int .i64 0, .float .f64 0, .string ⟨#[]⟩, .slice none 0 0] 26)) = wd at *
    have hc0 := cellAt HX.out 0 (v := .int .i64 0) rfl
    have hc1 := cellAt HX.out 1 (v := .int .i64 0) rfl
    have hc2 := cellAt HX.out 2 (v := .float .f64 0) rfl
    have hc3 := cellAt HX.out 3 (v := .string ⟨#[]⟩) rfl
    have hc4 := cellAt HX.out 4 (v := .slice none 0 0) rfl
    have hf0 := freeAt HX.out 0
    have hf1 := freeAt HX.out 1
    have hf2 := freeAt HX.out 2
    have hf3 := freeAt HX.out 3
    have hf4 := freeAt HX.out 4
    go_wp2_with fail
    refine atom_post (t := zeroT) HX.out HB1.out HP.out ?_ ?_ ?_ <;> rfl
  have hne := beq_toListBytes s ⟨#[110, 105, 108]⟩
  have hne2 := ba_beq s ⟨#[110, 105, 108]⟩
  rw [decide_eq_false hnil] at hne2
  rw [hne2, toList_mk3 [110, 105, 108]] at hne
  have hne3 := hne.symm
  have hsn : ¬ s.data.toList = nilS := fun h => hnil (by rw [← ba_data' s, h])
  unfold atomR at hp
  rw [if_neg hsn] at hp
  clear hne hne2 hnil hsn
  obtain ⟨nb, hnb⟩ : ∃ nb, nb = numberR s.data.toList := ⟨_, rfl⟩
  rw [← hnb] at HNU hp
  obtain ⟨nv, b⟩ := nb
  clear hnb
  dsimp only at HNU hp
  cases b with
  | true =>
    have HP : Hid (p = (.node 1 nv 0 ⟨#[]⟩ [], true)) := by rw [Hid, hp, if_pos rfl]
    clear hp
    go_enter Tryz.func70, Tryz.ntmps70
    go_upto_region 1 with fail
    generalize (w.alloc (.cells #[.int .i64 0, .int .i64 0, .float .f64 0, .string ⟨#[]⟩, .slice none 0 0] 26)) = wd at *
    have hc0 := cellAt HX.out 0 (v := .int .i64 0) rfl
    have hc1 := cellAt HX.out 1 (v := .int .i64 0) rfl
    have hc2 := cellAt HX.out 2 (v := .float .f64 0) rfl
    have hc3 := cellAt HX.out 3 (v := .string ⟨#[]⟩) rfl
    have hc4 := cellAt HX.out 4 (v := .slice none 0 0) rfl
    have hf0 := freeAt HX.out 0
    have hf1 := freeAt HX.out 1
    have hf2 := freeAt HX.out 2
    have hf3 := freeAt HX.out 3
    have hf4 := freeAt HX.out 4
    go_wp2_with fail
    refine (HNU.out _).mono ?_
    rintro e w2 ⟨rfl, rfl⟩
    go_wp2_with fail
    refine atom_post (t := .node 1 nv 0 ⟨#[]⟩ []) HX.out HB1.out HP.out ?_ ?_ ?_ <;> rfl
  | false =>
    rw [if_neg (by decide)] at hp
    by_cases h35 : s.data.toList.head? = some 35
    · rw [if_pos h35] at hp
      obtain ⟨r, hsr⟩ : ∃ r, s.data.toList = 35 :: r := by
        cases hd : s.data.toList with
        | nil => rw [hd] at h35; cases h35
        | cons a b => rw [hd] at h35; cases h35; exact ⟨b, rfl⟩
      have hpos : 0 < s.size := by rw [Lib.size_eq, hsr]; simp
      have h0 : ((((s[0]'hpos).toNat : Nat) : Int) == 35) = true := by rw [ba_get0 hpos hsr]; rfl
      have hxs : (s.extract 1 s.size).size ≤ 1000000 := by rw [Lib.size_eq, tail1, List.length_tail, ← Lib.size_eq]; omega
      have HC := Lib.hid (rnparse_any (s.extract 1 s.size) hxs)
      rw [tail1] at HC
      obtain ⟨nf, hnf⟩ : ∃ nf, nf = numParseR s.data.toList.tail := ⟨_, rfl⟩
      rw [← hnf] at HC hp
      obtain ⟨fv, fb⟩ := nf
      dsimp only at HC hp
      have HP := Lib.hid hp
      clear hp hnf hsr h35 hxs
      go_enter Tryz.func70, Tryz.ntmps70
      go_upto_region 1 with fail
      generalize (w.alloc (.cells #[.int .i64 0, .int .i64 0, .float .f64 0, .string ⟨#[]⟩, .slice none 0 0] 26)) = wd at *
      go_wp2_with fail
      refine (HNU.out _).mono ?_
      rintro e w1 ⟨rfl, rfl⟩
      go_wp2_with fail
      refine (HC.out _).mono ?_
      rintro e w2 ⟨rfl, hb2⟩
      have HB2 := Lib.hid (HB1.out.trans (hb2.mono HB1.out.size))
      have HX2 := Lib.hid ((hb2.block _ (lt_of_heap HX.out)).trans HX.out)
      clear hb2
      have hc0 := cellAt HX2.out 0 (v := .int .i64 0) rfl
      have hc1 := cellAt HX2.out 1 (v := .int .i64 0) rfl
      have hc2 := cellAt HX2.out 2 (v := .float .f64 0) rfl
      have hc3 := cellAt HX2.out 3 (v := .string ⟨#[]⟩) rfl
      have hc4 := cellAt HX2.out 4 (v := .slice none 0 0) rfl
      have hf0 := freeAt HX2.out 0
      have hf1 := freeAt HX2.out 1
      have hf2 := freeAt HX2.out 2
      have hf3 := freeAt HX2.out 3
      have hf4 := freeAt HX2.out 4
      go_wp2_with fail
      refine atom_post (t := .node 2 0 fv ⟨#[]⟩ []) HX2.out HB2.out HP.out ?_ ?_ ?_ <;> rfl
    · rw [if_neg h35] at hp
      have HH := Lib.hid h35
      clear h35
      by_cases hall : 2 ≤ s.data.toList.length ∧ s.data.toList.head? = some 34 ∧ s.data.toList.getLast? = some 34
      · rw [if_pos hall] at hp
        obtain ⟨hl2, hh34, hlst⟩ := hall
        obtain ⟨r, hsr⟩ : ∃ r, s.data.toList = 34 :: r := by
          cases hd : s.data.toList with
          | nil => rw [hd] at hh34; cases hh34
          | cons a b => rw [hd] at hh34; cases hh34; exact ⟨b, rfl⟩
        have hsz2 : 2 ≤ s.size := by rw [bsize] at hl2; exact hl2
        have hpos : 0 < s.size := by omega
        have hg0 := ba_get0 hpos hsr
        have h35f : ((((s[0]'hpos).toNat : Nat) : Int) == 35) = false := by rw [hg0]; rfl
        have h34t : ((((s[0]'hpos).toNat : Nat) : Int) == 34) = true := by rw [hg0]; rfl
        have hll : s.size - 1 < s.size := by omega
        have hlast : s.data.toList.getLast? = some (s[s.size - 1]'hll) := by
          rw [List.getLast?_eq_getElem?, bsize, Array.getElem?_toList]
          exact Array.getElem?_eq_getElem hll
        have hz34 : ((((s[s.size - 1]'hll).toNat : Nat) : Int) == 34) = true := by
          rw [hlast] at hlst
          rw [Option.some.inj hlst]; rfl
        have h2t : (2 : Int) ≤ (s.size : Int) := by omega
        have hxl : (s.extract 1 (s.size - 1)).data.toList = s.data.toList.tail.take (s.data.toList.length - 2) := by
          rw [ex_list, List.drop_one, bsize, Nat.sub_sub]
        have hxs : (s.extract 1 (s.size - 1)).size ≤ 1000000 := by
          rw [Lib.size_eq, hxl, List.length_take, List.length_tail, bsize]; omega
        have HC := Lib.hid (runhex_any (s.extract 1 (s.size - 1)) hxs)
        rw [hxl] at HC
        obtain ⟨nu, hnu⟩ : ∃ nu, nu = unhexR (s.data.toList.tail.take (s.data.toList.length - 2)) := ⟨_, rfl⟩
        rw [← hnu] at HC hp
        obtain ⟨uv, ub⟩ := nu
        dsimp only at HC hp
        have HP := Lib.hid hp
        clear hp hnu hsr HH hxl hxs hlast hg0 hh34 hlst hl2
        go_enter Tryz.func70, Tryz.ntmps70
        go_upto_region 1 with fail
        generalize (w.alloc (.cells #[.int .i64 0, .int .i64 0, .float .f64 0, .string ⟨#[]⟩, .slice none 0 0] 26)) = wd at *
        go_wp2_with fail
        refine (HNU.out _).mono ?_
        rintro e w1 ⟨rfl, rfl⟩
        go_wp2_with fail
        refine (HC.out _).mono ?_
        rintro e w2 ⟨rfl, hb2⟩
        have HB2 := Lib.hid (HB1.out.trans (hb2.mono HB1.out.size))
        have HX2 := Lib.hid ((hb2.block _ (lt_of_heap HX.out)).trans HX.out)
        clear hb2
        have hc0 := cellAt HX2.out 0 (v := .int .i64 0) rfl
        have hc1 := cellAt HX2.out 1 (v := .int .i64 0) rfl
        have hc2 := cellAt HX2.out 2 (v := .float .f64 0) rfl
        have hc3 := cellAt HX2.out 3 (v := .string ⟨#[]⟩) rfl
        have hc4 := cellAt HX2.out 4 (v := .slice none 0 0) rfl
        have hf0 := freeAt HX2.out 0
        have hf1 := freeAt HX2.out 1
        have hf2 := freeAt HX2.out 2
        have hf3 := freeAt HX2.out 3
        have hf4 := freeAt HX2.out 4
        go_wp2_with fail
        refine atom_post (t := .node 3 0 0 ⟨uv.toArray⟩ []) HX2.out HB2.out HP.out ?_ ?_ ?_ <;> rfl
      · rw [if_neg hall] at hp
        have HP := Lib.hid hp
        have HA := Lib.hid hall
        clear hp hall
        rcases Nat.lt_or_ge 0 s.size with hpos | hz
        · obtain ⟨x, r, hsr⟩ : ∃ x r, s.data.toList = x :: r := by
            cases hd : s.data.toList with
            | nil => rw [Lib.size_eq, hd] at hpos; simp at hpos
            | cons a b => exact ⟨a, b, rfl⟩
          have hg0 := ba_get0 hpos hsr
          have h35f : ((((s[0]'hpos).toNat : Nat) : Int) == 35) = false := by
            rw [hg0]
            exact byte_ne (fun e => HH.out (by rw [hsr, e]; rfl))
          by_cases hs2 : s.size = 1
          · have h2f : ¬ (2 : Int) ≤ (s.size : Int) := by omega
            clear hs2 hg0 hsr
            go_enter Tryz.func70, Tryz.ntmps70
            go_upto_region 1 with fail
            generalize (w.alloc (.cells #[.int .i64 0, .int .i64 0, .float .f64 0, .string ⟨#[]⟩, .slice none 0 0] 26)) = wd at *
            have hc0 := cellAt HX.out 0 (v := .int .i64 0) rfl
            have hc1 := cellAt HX.out 1 (v := .int .i64 0) rfl
            have hc2 := cellAt HX.out 2 (v := .float .f64 0) rfl
            have hc3 := cellAt HX.out 3 (v := .string ⟨#[]⟩) rfl
            have hc4 := cellAt HX.out 4 (v := .slice none 0 0) rfl
            have hf0 := freeAt HX.out 0
            have hf1 := freeAt HX.out 1
            have hf2 := freeAt HX.out 2
            have hf3 := freeAt HX.out 3
            have hf4 := freeAt HX.out 4
            go_wp2_with fail
            refine (HNU.out _).mono ?_
            rintro e w1 ⟨rfl, rfl⟩
            go_wp2_with fail
            refine atom_post (t := zeroT) HX.out HB1.out HP.out ?_ ?_ ?_ <;> rfl
          · have h2t : (2 : Int) ≤ (s.size : Int) := by omega
            by_cases hx34 : x = 34
            · have h34t : ((((s[0]'hpos).toNat : Nat) : Int) == 34) = true := by rw [hg0, hx34]; rfl
              have hll : s.size - 1 < s.size := by omega
              have hlast : s.data.toList.getLast? = some (s[s.size - 1]'hll) := by
                rw [List.getLast?_eq_getElem?, bsize, Array.getElem?_toList]
                exact Array.getElem?_eq_getElem hll
              have hz34 : ((((s[s.size - 1]'hll).toNat : Nat) : Int) == 34) = false := by
                refine byte_ne2 (fun e => HA.out ⟨by rw [bsize]; omega, by rw [hsr, hx34]; rfl, by rw [hlast, e]⟩)
              clear hs2 hg0 hsr hlast hx34
              go_enter Tryz.func70, Tryz.ntmps70
              go_upto_region 1 with fail
              generalize (w.alloc (.cells #[.int .i64 0, .int .i64 0, .float .f64 0, .string ⟨#[]⟩, .slice none 0 0] 26)) = wd at *
              have hc0 := cellAt HX.out 0 (v := .int .i64 0) rfl
              have hc1 := cellAt HX.out 1 (v := .int .i64 0) rfl
              have hc2 := cellAt HX.out 2 (v := .float .f64 0) rfl
              have hc3 := cellAt HX.out 3 (v := .string ⟨#[]⟩) rfl
              have hc4 := cellAt HX.out 4 (v := .slice none 0 0) rfl
              have hf0 := freeAt HX.out 0
              have hf1 := freeAt HX.out 1
              have hf2 := freeAt HX.out 2
              have hf3 := freeAt HX.out 3
              have hf4 := freeAt HX.out 4
              go_wp2_with fail
              refine (HNU.out _).mono ?_
              rintro e w1 ⟨rfl, rfl⟩
              go_wp2_with fail
              refine atom_post (t := zeroT) HX.out HB1.out HP.out ?_ ?_ ?_ <;> rfl
            · have h34f : ((((s[0]'hpos).toNat : Nat) : Int) == 34) = false := by
                rw [hg0]
                exact byte_ne2 hx34
              clear hs2 hg0 hsr hx34
              go_enter Tryz.func70, Tryz.ntmps70
              go_upto_region 1 with fail
              generalize (w.alloc (.cells #[.int .i64 0, .int .i64 0, .float .f64 0, .string ⟨#[]⟩, .slice none 0 0] 26)) = wd at *
              have hc0 := cellAt HX.out 0 (v := .int .i64 0) rfl
              have hc1 := cellAt HX.out 1 (v := .int .i64 0) rfl
              have hc2 := cellAt HX.out 2 (v := .float .f64 0) rfl
              have hc3 := cellAt HX.out 3 (v := .string ⟨#[]⟩) rfl
              have hc4 := cellAt HX.out 4 (v := .slice none 0 0) rfl
              have hf0 := freeAt HX.out 0
              have hf1 := freeAt HX.out 1
              have hf2 := freeAt HX.out 2
              have hf3 := freeAt HX.out 3
              have hf4 := freeAt HX.out 4
              go_wp2_with fail
              refine (HNU.out _).mono ?_
              rintro e w1 ⟨rfl, rfl⟩
              go_wp2_with fail
              refine atom_post (t := zeroT) HX.out HB1.out HP.out ?_ ?_ ?_ <;> rfl
        · have he : s = ⟨#[]⟩ := by
            rw [← ba_data' s]
            have : s.data.toList = [] := List.eq_nil_of_length_eq_zero (by rw [← Lib.size_eq]; omega)
            rw [this]
          subst he
          go_enter Tryz.func70, Tryz.ntmps70
          go_upto_region 1 with fail
          generalize (w.alloc (.cells #[.int .i64 0, .int .i64 0, .float .f64 0, .string ⟨#[]⟩, .slice none 0 0] 26)) = wd at *
          have hc0 := cellAt HX.out 0 (v := .int .i64 0) rfl
          have hc1 := cellAt HX.out 1 (v := .int .i64 0) rfl
          have hc2 := cellAt HX.out 2 (v := .float .f64 0) rfl
          have hc3 := cellAt HX.out 3 (v := .string ⟨#[]⟩) rfl
          have hc4 := cellAt HX.out 4 (v := .slice none 0 0) rfl
          have hf0 := freeAt HX.out 0
          have hf1 := freeAt HX.out 1
          have hf2 := freeAt HX.out 2
          have hf3 := freeAt HX.out 3
          have hf4 := freeAt HX.out 4
          go_wp2_with fail
          refine (HNU.out _).mono ?_
          rintro e w1 ⟨rfl, rfl⟩
          go_wp2_with fail
          refine atom_post (t := zeroT) HX.out HB1.out HP.out ?_ ?_ ?_ <;> rfl
end Go.Proofs.YtpijpeocdlnhiaaGreatDoor
