/- The reference's Unhex. -/
import Derived.Test.YtpijpeocdlnhiaaGreatDoorTRefP
namespace Go.Proofs.YtpijpeocdlnhiaaGreatDoor
set_option linter.unusedVariables false
set_option linter.unusedSimpArgs false
open Go.RowKit

theorem unhexRL_step : ∀ (m : Nat) (l : List UInt8) (a b : UInt8), l[2 * m]? = some a → l[2 * m + 1]? = some b → unhexRL (l.take (2 * (m + 1))) = unhexRL (l.take (2 * m)) ++ [UInt8.ofNat (hexR (hexR 0 a) b)]
  | 0, l, a, b, ha, hb => by
    match l, ha, hb with
    | x :: y :: r, ha, hb => cases ha; cases hb; rfl
  | m + 1, l, a, b, ha, hb => by
    match l, ha, hb with
    | x :: y :: r, ha, hb =>
      have h := unhexRL_step m r a b (by rw [show 2 * (m + 1) = 2 * m + 1 + 1 by omega] at ha; simpa using ha) (by rw [show 2 * (m + 1) + 1 = 2 * m + 1 + 1 + 1 by omega] at hb; simpa using hb)
      rw [show 2 * (m + 1 + 1) = 2 * (m + 1) + 1 + 1 by omega, show 2 * (m + 1) = 2 * m + 1 + 1 by omega]
      simp only [List.take_succ_cons, unhexRL]
      rw [show 2 * m + 1 + 1 = 2 * (m + 1) by omega, h, List.cons_append]
theorem unhexRL_end : ∀ (m : Nat) (l : List UInt8), l.length ≤ 2 * m + 1 → unhexRL (l.take (2 * m)) = unhexRL l
  | 0, l, h => by
    match l, h with
    | [], h => rfl
    | [x], h => rfl
  | m + 1, l, h => by
    match l, h with
    | [], h => rfl
    | [x], h => rfl
    | x :: y :: r, h =>
      have h2 := unhexRL_end m r (by simp at h; omega)
      rw [show 2 * (m + 1) = 2 * m + 1 + 1 by omega]
      simp only [List.take_succ_cons, unhexRL]
      rw [h2]
theorem unhexRL_len : ∀ (m : Nat) (l : List UInt8), 2 * m ≤ l.length → (unhexRL (l.take (2 * m))).length = m
  | 0, l, h => rfl
  | m + 1, l, h => by
    match l, h with
    | [], h => simp at h
    | [x], h => simp at h; omega
    | x :: y :: r, h =>
      have h2 := unhexRL_len m r (by simp at h; omega)
      rw [show 2 * (m + 1) = 2 * m + 1 + 1 by omega]
      simp only [List.take_succ_cons, unhexRL, List.length_cons]
      rw [h2]
theorem conv_any {P : Program} {w : World} {src dst e : TypeId} {a : Option Addr} {c : Nat} {l : List UInt8} (hs : P.underlying src = some (.slice e)) (he : P.underlying e = some (.int .u8)) (hd : P.underlying dst = some .string)
    (h : Reads w (.slice a l.length c) l.length 1 (u8s l)) : (convert src dst (.slice a l.length c)).run P w = .ok (.string ⟨l.toArray⟩) w := by
  cases a with
  | none =>
    obtain ⟨-, ao, c', hv, -, hnn, -⟩ := h
    cases hv
    have h0 := (hnn rfl).1
    have : l = [] := List.eq_nil_of_length_eq_zero h0
    subst this
    exact run_convert_bytes_nil w src e hs he _ _ dst hd
  | some ad =>
    obtain ⟨-, ao, c', hv, -, hnn, hc⟩ := h
    cases hv
    refine run_convert_bytes_back w src dst e ad c l hs he hd (fun j hj => ?_)
    exact hc ad rfl j _ (by rw [u8s, List.getElem?_map, List.getElem?_eq_getElem hj]; rfl)
theorem bel_stepU {w0 a b : World} (h : Hid (Below w0.heap.size w0 a)) (hb : Below a.heap.size a b) : Hid (Below w0.heap.size w0 b) := h.out.trans (hb.mono h.out.size)
theorem hexR_le (n : Nat) (c : UInt8) (h : n ≤ 15) : hexR n c ≤ 255 ∧ (n = 0 → hexR n c ≤ 15) := by
  unfold hexR
  repeat' split
  all_goals omega
set_option maxRecDepth 100000 in
set_option maxHeartbeats 4000000 in
theorem runhex_any (s : ByteArray) (hs : s.size ≤ 1000000) (w : World) :
    Calls Tryz.prog 98 #[.string s] w fun e w' => e = .returned (.tuple #[.string ⟨(unhexR s.data.toList).1.toArray⟩, .bool (unhexR s.data.toList).2]) ∧ Below w.heap.size w w' := by
  go_enter Tryz.func98, Tryz.ntmps98
  go_wp2_with fail
  go_loopw [4, 5] (fun o i w' => ∃ (m : Nat) (a : Option Addr) (c : Nat), i = .int .i64 (2 * m : Nat) ∧ o = .slice a m c ∧ 2 * m ≤ s.size ∧ Hid (Row w' 5 1 (.slice a m c) m (u8s (unhexRL (s.data.toList.take (2 * m)))) (fun k => w.heap.size ≤ k)) ∧ Hid (Below w.heap.size w w')) (fun _ i _ => s.size - (RowKit.intOf i).toNat)
  case atStart => exact ⟨0, none, 0, rfl, rfl, Nat.zero_le _, Row.nil _ _ _ _, Below.refl _ _⟩
  case round =>
    obtain ⟨m, a, c, rfl, rfl, hm, HR, HB⟩ := hrel
    obtain ⟨i, hi⟩ : ∃ i, i = 2 * m := ⟨_, rfl⟩
    rw [← hi]
    have HI := Lib.hid hi
    by_cases hlt : i + 1 < s.size
    · have hlt0 : i < s.size := by omega
      obtain ⟨x, hx⟩ : ∃ x, x = s[i]'hlt0 := ⟨_, rfl⟩
      obtain ⟨y, hy⟩ : ∃ y, y = s[i + 1]'hlt := ⟨_, rfl⟩
      have hxe : s[i]'hlt0 = x := hx.symm
      have hye : s[i + 1]'hlt = y := hy.symm
      have hla : s.data.toList[2 * m]? = some x := by
        rw [← hi, Array.getElem?_toList, ← hxe]
        exact Array.getElem?_eq_getElem hlt0
      have hlb : s.data.toList[2 * m + 1]? = some y := by
        rw [← hi, Array.getElem?_toList, ← hye]
        exact Array.getElem?_eq_getElem hlt
      have HST := Lib.hid (unhexRL_step m s.data.toList x y hla hlb)
      clear hla hlb hx hy
      obtain ⟨hx, hhx⟩ : ∃ f : Nat → Nat, f = fun t => if t = 0 then 0 else if t = 1 then hexR 0 x else hexR (hexR 0 x) y := ⟨_, rfl⟩
      have HH0 : Hid (hx 0 = 0) := by rw [hhx]; rfl
      have HH1 : Hid (hx 1 = hexR 0 x) := by rw [hhx]; rfl
      have HH2 : Hid (hx 2 = hexR (hexR 0 x) y) := by rw [hhx]; rfl
      have hb1 := (hexR_le 0 x (by decide)).2 rfl
      have HBD : Hid (∀ t, t ≤ 1 → hx t ≤ 15) := by
        intro t ht
        obtain rfl | rfl : t = 0 ∨ t = 1 := by omega
        · rw [HH0.out]; decide
        · rw [HH1.out]; exact hb1
      have HZ : Hid (∀ t, t ≤ 1 → ∃ (hlt : i + t < s.size) (z : UInt8), s[i + t]'hlt = z ∧ hx (t + 1) = hexR (hx t) z) := by
        intro t ht
        obtain rfl | rfl : t = 0 ∨ t = 1 := by omega
        · exact ⟨hlt0, x, hxe, by rw [HH0.out, HH1.out]⟩
        · exact ⟨hlt, y, hye, by rw [HH1.out, HH2.out]⟩
      have hb2 := (hexR_le _ y hb1).1
      have HB2 := Lib.hid hb2
      clear hi hhx hb1 hb2 hxe hye
      go_wp2_with fail
      go_loopw [6, 7] (fun n k w' => ∃ (t v : Nat), k = .int .i64 (i + t : Nat) ∧ n = .int .i64 v ∧ t ≤ 2 ∧ Hid (v = hx t) ∧ w' = wr) (fun _ k _ => i + 2 - (RowKit.intOf k).toNat)
      case atStart => exact ⟨0, 0, rfl, rfl, by decide, HH0.out.symm, rfl⟩
      case round =>
        obtain ⟨t, v, rfl, rfl, ht, HV, rfl⟩ := hrel
        obtain ⟨kk, hkk⟩ : ∃ kk, kk = i + t := ⟨_, rfl⟩
        rw [← hkk]
        by_cases ht2 : t < 2
        · obtain ⟨hlz, z, hz, hnx⟩ := HZ.out t (by omega)
          have hv15 : v ≤ 15 := by rw [HV.out]; exact HBD.out t (by omega)
          rw [← HV.out] at hnx
          have HNX := Lib.hid hnx
          have hkl : kk < s.size := hkk ▸ hlz
          have hz2 : s[kk]'hkl = z := by subst hkk; exact hz
          have hki : kk < i + 2 := by omega
          have hz256 : z.toNat < 256 := z.toNat_lt
          have HKK := Lib.hid hkk
          clear hz hlz hnx hkk
          have hw1 : IntKind.i64.wrap ((v : Int) * 16) = ((v * 16 : Nat) : Int) := by rw [IntKind.wrap_i64]; omega
          by_cases hd : 48 ≤ z.toNat ∧ z.toNat ≤ 57
          · have h1 : (48 : Int) ≤ (z.toNat : Int) := by omega
            have h2 : (z.toNat : Int) ≤ 57 := by omega
            have h3 : ¬ (97 : Int) ≤ (z.toNat : Int) := by omega
            have hst : hexR v z = v * 16 + (z.toNat - 48) := by unfold hexR; rw [if_pos hd, if_neg (by omega)]; rfl
            have hw2 : IntKind.u8.wrap ((z.toNat : Int) - 48) = ((z.toNat - 48 : Nat) : Int) := by rw [IntKind.wrap_u8]; omega
            have hw4 : IntKind.i64.wrap ((z.toNat - 48 : Nat) : Int) = ((z.toNat - 48 : Nat) : Int) := by rw [IntKind.wrap_i64]; omega
            have hw3 : IntKind.i64.wrap (((v * 16 : Nat) : Int) + ((z.toNat - 48 : Nat) : Int)) = (hexR v z : Int) := by rw [IntKind.wrap_i64, hst]; omega
            have HF : Hid (hexR v z = hx (t + 1)) := HNX.out.symm
            clear hst hd HNX
            generalize hexR v z = q2 at *
            generalize v * 16 = q10 at *
            generalize z.toNat - 48 = x48 at *
            go_wp2_with fail
            refine ⟨⟨t + 1, q2, by rw [show i + (t + 1) = kk + 1 by rw [HKK.out]; omega]; go_num, rfl, by omega, HF.out, trivial⟩, ?_⟩
            simp [RowKit.intOf]; omega
          · by_cases hl : 97 ≤ z.toNat ∧ z.toNat ≤ 102
            · have h1 : (48 : Int) ≤ (z.toNat : Int) := by omega
              have h2 : ¬ (z.toNat : Int) ≤ 57 := by omega
              have h3 : (97 : Int) ≤ (z.toNat : Int) := by omega
              have h4 : (z.toNat : Int) ≤ 102 := by omega
              have hst : hexR v z = v * 16 + (z.toNat - 97) + 10 := by unfold hexR; rw [if_pos hl, if_neg hd]; omega
              have hw2 : IntKind.u8.wrap ((z.toNat : Int) - 97) = ((z.toNat - 97 : Nat) : Int) := by rw [IntKind.wrap_u8]; omega
              have hw4 : IntKind.i64.wrap ((z.toNat - 97 : Nat) : Int) = ((z.toNat - 97 : Nat) : Int) := by rw [IntKind.wrap_i64]; omega
              obtain ⟨qm, hqm⟩ : ∃ qm : Nat, qm = v * 16 + (z.toNat - 97) := ⟨_, rfl⟩
              have hw5 : IntKind.i64.wrap (((v * 16 : Nat) : Int) + ((z.toNat - 97 : Nat) : Int)) = (qm : Int) := by rw [IntKind.wrap_i64, hqm]; omega
              have hw3 : IntKind.i64.wrap ((qm : Int) + 10) = (hexR v z : Int) := by rw [IntKind.wrap_i64, hst, hqm]; omega
              have HF : Hid (hexR v z = hx (t + 1)) := HNX.out.symm
              clear hst hd hl hqm HNX
              generalize hexR v z = q2 at *
              generalize v * 16 = q10 at *
              generalize z.toNat - 97 = x48 at *
              go_wp2_with fail
              refine ⟨⟨t + 1, q2, by rw [show i + (t + 1) = kk + 1 by rw [HKK.out]; omega]; go_num, rfl, by omega, HF.out, trivial⟩, ?_⟩
              simp [RowKit.intOf]; omega
            · have hst : hexR v z = v * 16 := by unfold hexR; rw [if_neg hd, if_neg hl]; rfl
              have HF : Hid (v * 16 = hx (t + 1)) := by rw [Hid, HNX.out, hst]
              have HL : Hid (z.toNat < 48 ∨ (57 < z.toNat ∧ z.toNat < 97) ∨ 102 < z.toNat) := by rw [Hid]; omega
              clear hst hd hl HNX
              generalize v * 16 = q10 at *
              rcases HL.out with h | ⟨h, h'⟩ | h
              · have g1 : ¬ (48 : Int) ≤ (z.toNat : Int) := by omega
                have g3 : ¬ (97 : Int) ≤ (z.toNat : Int) := by omega
                clear h
                go_wp2_with fail
                refine ⟨⟨t + 1, q10, by rw [show i + (t + 1) = kk + 1 by rw [HKK.out]; omega]; go_num, rfl, by omega, HF.out, trivial⟩, ?_⟩
                simp [RowKit.intOf]; omega
              · have g1 : (48 : Int) ≤ (z.toNat : Int) := by omega
                have g2 : ¬ (z.toNat : Int) ≤ 57 := by omega
                have g3 : ¬ (97 : Int) ≤ (z.toNat : Int) := by omega
                clear h h'
                go_wp2_with fail
                refine ⟨⟨t + 1, q10, by rw [show i + (t + 1) = kk + 1 by rw [HKK.out]; omega]; go_num, rfl, by omega, HF.out, trivial⟩, ?_⟩
                simp [RowKit.intOf]; omega
              · have g1 : (48 : Int) ≤ (z.toNat : Int) := by omega
                have g2 : ¬ (z.toNat : Int) ≤ 57 := by omega
                have g3 : (97 : Int) ≤ (z.toNat : Int) := by omega
                have g4 : ¬ (z.toNat : Int) ≤ 102 := by omega
                clear h
                go_wp2_with fail
                refine ⟨⟨t + 1, q10, by rw [show i + (t + 1) = kk + 1 by rw [HKK.out]; omega]; go_num, rfl, by omega, HF.out, trivial⟩, ?_⟩
                simp [RowKit.intOf]; omega
        · obtain rfl : t = 2 := by omega
          have hkk2 : ¬ kk < i + 2 := by omega
          have hv256 : v < 256 := by rw [HV.out, HH2.out]; have := HB2.out; omega
          have HOB : Hid (unhexRL (s.data.toList.take (2 * (m + 1))) = unhexRL (s.data.toList.take (2 * m)) ++ [UInt8.ofNat v]) := by rw [Hid, HST.out, HV.out, HH2.out]
          have hw8 : IntKind.u8.wrap (v : Int) = ((UInt8.ofNat v).toNat : Int) := by
            have e : (UInt8.ofNat v).toNat = v := by rw [UInt8.toNat_ofNat']; omega
            rw [IntKind.wrap_u8, e]; omega
          generalize UInt8.ofNat v = bt at *
          have hone := u8s_one [bt]
          have hmb : m ≤ 500000 := by omega
          have HKK := Lib.hid hkk
          clear hkk
          go_wp2_with (refine wpList_row elemU8 rfl rfl (S := fun k => w.heap.size ≤ k) (v := .slice a m c) (n := m) (xs := u8s (unhexRL (s.data.toList.take (2 * m)))) rfl (HR.out.frame (fun k _ hk => Below.heap_alloc _ _ _ hk)) (y := .slice (some ⟨wr.heap.size, 0, none⟩) 1 1) (m := 1) (news := u8s [bt]) rfl (Reads.block (heap_alloc_new wr _) 1 1 rfl) hone (by unfold maxLen; omega) (by omega) ?_
                       intro v5 w5 hr5 hch5
                       obtain ⟨a5, c5, rfl⟩ : ∃ a5 c5, v5 = .slice a5 (m + 1) c5 := (by obtain ⟨-, a5, c5, h, -⟩ := hr5.reads; exact ⟨a5, c5, h⟩)
                       have HR5 := Lib.hid hr5
                       have HCH5 := Lib.hid hch5
                       clear hr5 hch5)
          refine ⟨⟨m + 1, a5, c5, by rw [show 2 * (m + 1) = i + 2 by rw [HI.out]; omega]; go_num, rfl, by have := HI.out; omega, ?_, ?_⟩, ?_⟩
          · rw [Hid, HOB.out]
            have e : ∀ A : List UInt8, u8s (A ++ [bt]) = u8s A ++ u8s [bt] := fun A => by simp [u8s]
            rw [e]
            exact HR5.out.mono (fun k hk => by rcases hk with hk | hk; exact hk; have := HB.out.size; simp only [World.size_alloc] at hk; omega)
          · exact (HB.out.alloc HB.out.size _).trans (HCH5.out.toBelow (B := w.heap.size) (by simp only [World.size_alloc]; have := HB.out.size; omega) (fun n hn h => by omega))
          · simp [RowKit.intOf]; omega
    · have hle : s.data.toList.length ≤ 2 * m + 1 := by rw [bsize]; omega
      have hend := unhexRL_end m s.data.toList hle
      have hln := unhexRL_len m s.data.toList (by rw [bsize]; exact hm)
      rw [hend] at HR hln
      have huR : unhexR s.data.toList = (unhexRL s.data.toList, decide (hexL (unhexRL s.data.toList) = s.data.toList)) := rfl
      obtain ⟨L, hL⟩ : ∃ L, L = unhexRL s.data.toList := ⟨_, rfl⟩
      rw [← hL] at HR hln huR
      obtain ⟨ob, hob⟩ : ∃ ob : ByteArray, ob = ⟨L.toArray⟩ := ⟨_, rfl⟩
      have hobl : ob.data.toList = L := by rw [hob]
      have hobs : ob.size ≤ 1000000 := by rw [Lib.size_eq, hobl, hln]; omega
      obtain ⟨cc, hcc⟩ : ∃ cc, cc = decide (hexL L = s.data.toList) := ⟨_, rfl⟩
      rw [← hcc] at huR
      have HU := Lib.hid huR
      have HCV : Hid (∀ W, Hid (Below wr.heap.size wr W) → (convert 33 9 (.slice a m c)).run Tryz.prog W = .ok (.string ob) W) := fun W hW => by
        rw [hob, ← hln]
        exact conv_any Tryz.underlying33 Tryz.underlying5 Tryz.underlying9 (by rw [hln]; exact (HR.out.reads.later hW.out))
      have HHX := Lib.hid (rhex_any ob hobs)
      obtain ⟨d, hd⟩ : ∃ d : ByteArray, d = ⟨(hexL ob.data.toList).toArray⟩ := ⟨_, rfl⟩
      have he := str_eqL d s _ hd
      rw [hobl, ← hcc] at he
      simp only [← hd] at HHX
      have HOB := Lib.hid hob
      have hib : i ≤ 1000000 := by omega
      have hlti : ¬ ((i : Int) + 1 < (s.size : Int)) := by omega
      have hltd : decide ((i : Int) + 1 < (s.size : Int)) = false := decide_eq_false hlti
      have HB00 : Hid (Below wr.heap.size wr wr) := Below.refl _ _
      have HB0 : Hid (Below wr.heap.size wr wr.drew) := (Below.refl _ _).drew
      clear hle hend hln huR hL hob hobl hcc hd hi hlt
      go_upto_region 16 with fail
      go_region_held3 (fun w' => (convert 33 9 (.slice a m c)).run Tryz.prog w' = .ok (.string ob) w') (exact HCV.out _ (by assumption))
        (first
        | (go_at_call 80; refine (HHX.out _).mono ?_; rintro e w4 ⟨rfl, hb4⟩
           have HB4 := bel_stepU (by assumption) hb4
           clear hb4)
        | fail)
      all_goals
        have HBE := Lib.hid (HB.out.trans (HB4.out.mono HB.out.size))
        go_wp2_with fail
        go_ret2
        exact ⟨by rw [HU.out, HOB.out]; rfl, HBE.out⟩
end Go.Proofs.YtpijpeocdlnhiaaGreatDoor
