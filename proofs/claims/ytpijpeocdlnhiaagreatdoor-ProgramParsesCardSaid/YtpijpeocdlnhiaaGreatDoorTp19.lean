/- Texts for programTexts_holds, joined: QBack, QRParse, QLaws, Lift, PLift. -/
import Derived.Test.YtpijpeocdlnhiaaGreatDoorTp06
import Derived.Test.YtpijpeocdlnhiaaGreatDoorTp17
import Derived.Test.YtpijpeocdlnhiaaGreatDoorTp18
import Derived.Test.YtpijpeocdlnhiaaGreatDoorRows
import Derived.Test.YtpijpeocdlnhiaaGreatDoorTp01
import Derived.ProofKit
import Derived.OpenShut
import Derived.Carry
import Derived.Test.YtpijpeocdlnhiaaGreatDoorCards
import Derived.Test.YtpijpeocdlnhiaaGreatDoorTie
import Derived.Test.YtpijpeocdlnhiaaGreatDoorTp16
import Derived.Shelf.Vars
import Derived.LaidMore
import Derived.LaidLaws
import Derived.Lib.LaidTab
import Derived.Lay
import Derived.Stop.Joined
import Derived.SevenTiedAt
set_option linter.unusedVariables false
set_option linter.unusedSimpArgs false
namespace Go.Proofs.YtpijpeocdlnhiaaGreatDoor
open Go.RowKit
theorem elemStepR : ElemOf Tryz.prog 79 81 (.agg #[.int .i64 0, .int .i64 0, .string ⟨#[]⟩]) 3 32 := ⟨Tryz.underlying79, by kernel_rfl, rfl, by decide⟩
theorem elemRowR : ElemOf Tryz.prog 42 79 (.slice none 0 0) 1 24 := ⟨Tryz.underlying42, by kernel_rfl, rfl, by decide⟩
set_option maxRecDepth 100000 in
set_option maxHeartbeats 2000000 in
theorem back_any (a : Option Addr) (c : Nat) (P : List RT) (w : World) (h : PrgU w (.slice a P.length c) P) :
    Calls Tryz.prog 34 #[.slice a P.length c] w (GPost w P) := by
  have HP := Lib.hid h
  have hll := h.lb
  clear h
  have HC1 : Hid (∀ (P2 : List RT) (a2 : Option Addr) (c2 : Nat) w', PrgU w' (.slice a2 P2.length c2) P2 → P2.map RT.l = P.map RT.l → Below w.heap.size w w' → GPost w P (.returned (.slice a2 P2.length c2)) w') := fun P2 a2 c2 w' h1 h2 h3 => ⟨P2, a2, c2, rfl, h1, h2, h3⟩
  obtain ⟨Q, hQ⟩ : ∃ Q, Q = GPost w P := ⟨_, rfl⟩
  rw [← hQ] at HC1 ⊢
  clear hQ
  go_enter Tryz.func34, Tryz.ntmps34
  go_wp2_with fail
  go_loopw [3, 11] (fun out i w' => ∃ (m : Nat) (P2 : List RT) (B : List Nat), m ≤ P.length ∧ P2.length = m ∧ i = .int .i64 m ∧ Hid (GivenI 79 w w' out P2 B) ∧ Hid (P2.map RT.l = (P.take m).map RT.l) ∧ Hid (Below w.heap.size w w')) (fun _ i _ => P.length - (RowKit.intOf i).toNat)
  case atStart => exact ⟨0, [], [], by omega, rfl, rfl, ⟨Row.nil _ _ _ _, by simp, by simp⟩, by simp [Hid], Below.refl _ _⟩
  case round =>
    obtain ⟨m, P2, B, hm, hlm, rfl, HG, HT, HB⟩ := hrel
    by_cases hlt : m < P.length
    · obtain ⟨b, o, rfl, hle, hbl, hc⟩ := (HP.out.later HB.out).head hlt
      have HE := Lib.hid ((HP.out.later HB.out).each P[m] (List.getElem_mem hlt))
      have hl6 := HE.out.lb
      have HT2 : Hid (∀ r : RT, r.l = P[m].l → (P2 ++ [r]).map RT.l = (P.take (m + 1)).map RT.l) := fun r hr => take_l hlt HT.out hr
      have HLM := Lib.hid hlm
      clear HT hlm
      generalize P[m] = r at *
      obtain ⟨rl, ra, rc⟩ := r
      simp only [RT.v] at *
      have hszr := HB.out.size
      obtain ⟨wo, rfl⟩ : ∃ wo : World, wo = wr := ⟨_, rfl⟩
      go_wp2_with fail
      go_loopw [6, 17] (fun out i w' => ∃ q : Nat, q ≤ rl.length ∧ i = .int .i64 q ∧ Hid (Row w' 81 3 out q ((rl.take q).flatMap stcells) (fun k => wo.heap.size ≤ k)) ∧ Hid (Below wo.heap.size wo w')) (fun _ i _ => rl.length - (RowKit.intOf i).toNat)
      case atStart => exact ⟨0, by omega, rfl, Row.nil _ _ _ _, Below.refl _ _⟩
      case round =>
        obtain ⟨q, hq, rfl, HO, HB2⟩ := hrel
        by_cases hlt2 : q < rl.length
        · obtain ⟨b2, o2, rfl, hle2, hb2, d0, d1, d2⟩ := RT.inw.cells (HE.out.later HB2.out) hlt2
          have HTQ : Hid ((rl.take (q + 1)).flatMap stcells = (rl.take q).flatMap stcells ++ stcells rl[q]) := by rw [Hid, List.take_succ_eq_append_getElem hlt2, List.flatMap_append]; simp
          generalize rl[q] = x at *
          obtain ⟨xk, xn, xs⟩ := x
          simp only at *
          have hsz := HB2.out.size
          have HXA : Hid ((wr.alloc (.cells #[.int .i64 xk, .int .i64 xn, .string xs] 82)).heap[wr.heap.size]? = some (.cells #[.int .i64 xk, .int .i64 xn, .string xs] 82 (0, 0))) := heap_alloc_new _ _
          have HBA : Hid (Below wo.heap.size wo (wr.alloc (.cells #[.int .i64 xk, .int .i64 xn, .string xs] 82))) := HB2.out.alloc hsz _
          have HOA : Hid (Row (wr.alloc (.cells #[.int .i64 xk, .int .i64 xn, .string xs] 82)) 81 3 u6 q ((rl.take q).flatMap stcells) (fun k => wo.heap.size ≤ k)) := HO.out.frame (fun k _ hk => Below.heap_alloc _ _ _ hk)
          go_upto_region 9 with fail
          generalize wr.alloc (.cells #[.int .i64 xk, .int .i64 xn, .string xs] 82) = wa at *
          clear d0 d1 d2 hc
          have y0 := cellAt HXA.out 0 rfl
          have y1 := cellAt HXA.out 1 rfl
          have y2 := cellAt HXA.out 2 rfl
          have hsa := HBA.out.size
          go_wp2_with (
            refine wpList_row elemStepR rfl rfl (S := fun k => wo.heap.size ≤ k) (n := q) (xs := (rl.take q).flatMap stcells) rfl (HOA.out.frame (fun k _ hk => Below.heap_alloc _ _ _ hk)) (y := .slice (some ⟨wa.heap.size, 0, none⟩) 1 1) (m := 1) (news := [.int .i64 xk, .int .i64 xn, .string xs]) rfl (Reads.single (heap_alloc_new wa _)) (by intro u hu; simp only [List.mem_cons, List.not_mem_nil, or_false] at hu; rcases hu with rfl | rfl | rfl <;> rfl) (by unfold maxLen; omega) (by omega) ?_
            intro v5 w5 hr5 hch5)
          go_roundw
          case rel =>
            refine ⟨q + 1, by omega, by go_num, ?_, (HBA.out.alloc hsa _).trans (hch5.toBelow (by simp <;> omega) (fun n hn h => by omega))⟩
            rw [Hid, HTQ.out]
            exact hr5.mono (fun k hk => by rcases hk with hk | hk; exact hk; simp only [World.size_alloc] at hk; omega)
          case measure => simp [RowKit.intOf]; omega
        · obtain rfl : q = rl.length := by omega
          rw [List.take_length] at HO
          have HO2 : Hid (∃ r2 : RT, r2.l = rl ∧ u6 = r2.v ∧ (∀ ad, r2.a = some ad → wo.heap.size ≤ ad.block ∧ ad.block < wr.heap.size) ∧ Reads wr r2.v r2.l.length 3 (r2.l.flatMap stcells)) := HO.out.rt
          obtain ⟨⟨l2, a2, c2⟩, hr2l, hu6, HA2, HRD⟩ := HO2.out
          obtain rfl : rl = l2 := hr2l.symm
          obtain rfl : u6 = .slice a2 rl.length c2 := hu6
          have HIN : Hid (RT.inw ⟨rl, a2, c2⟩ wr) := ⟨HRD, HE.out.ll, HE.out.ok, HE.out.lb⟩
          have HTN := Lib.hid (HT2.out ⟨rl, a2, c2⟩ rfl)
          have HA := Lib.hid HA2
          clear HO HO2 HRD HA2 hr2l HT2
          have hbs2 := HB2.out.size
          have hml : m < 9223372036854775807 := by omega
          obtain ⟨mm, hmm⟩ : ∃ mm, mm = P2.length := ⟨_, rfl⟩
          have HM : Hid (mm = P2.length) := hmm
          have hmm2 : mm = m := by rw [hmm]; exact HLM.out
          clear hmm
          subst hmm2
          have HGR : Hid (Row wr 79 1 u3 mm (P2.map RT.v) (fun k => w.heap.size ≤ k ∧ k < wo.heap.size ∧ k ∉ B)) := by
            rw [HM.out]; exact HG.out.row.frame (fun k hk hk2 => HB2.out.block k hk.2.1)
          go_wp2_with (
            refine wpList_row elemRowR rfl rfl (S := fun k => w.heap.size ≤ k ∧ k < wo.heap.size ∧ k ∉ B) (n := mm) (xs := P2.map RT.v) rfl (HGR.out.frame (fun k _ hk => Below.heap_alloc _ _ _ hk)) (y := .slice (some ⟨wr.heap.size, 0, none⟩) 1 1) (m := 1) (news := [.slice a2 rl.length c2]) rfl (reads_one wr _ _) (one_of rfl) (by unfold maxLen; omega) (by omega) ?_
            intro v5 w5 hr5 hch5)
          have HS5 : Hid (∃ B', GivenI 79 w w5 v5 (P2 ++ [⟨rl, a2, c2⟩]) B') := by
            refine given_step hszr HG.out HB2.out HIN.out (fun ad had => HA.out ad had) ?_ hch5
            rw [← HM.out]
            exact hr5
          obtain ⟨B', HG5⟩ := HS5.out
          have HB5 : Hid (Below w.heap.size w w5) := ((HB.out.trans (HB2.out.mono hszr)).alloc (by omega) _).trans (hch5.toBelow (by simp; omega) (fun n hn h => by have := h.1; omega))
          clear hr5 hch5 HS5 HGR HG HB2 HE HIN
          go_roundw
          case rel => exact ⟨mm + 1, P2 ++ [⟨rl, a2, c2⟩], B', by omega, by simp [HM.out], by go_num, Lib.hid HG5, HTN, HB5⟩
          case measure => simp [RowKit.intOf]; omega
    · obtain rfl : m = P.length := by omega
      rw [List.take_length] at HT
      have HV : Hid (∃ a2 c2, u3 = .slice a2 P2.length c2 ∧ Q (.returned (.slice a2 P2.length c2)) wr) := by
        have hr := HG.out.row.reads
        have hl := map_l_len HT.out
        obtain ⟨_, ao, c2, hv, _⟩ := id hr
        refine ⟨ao, c2, hv, HC1.out P2 ao c2 wr ⟨hv ▸ hr, fun r hr => (HG.out.each r hr).1, ?_, ?_⟩ HT.out HB.out⟩
        · rw [hl]; exact HP.out.ll
        · rw [hl]; exact HP.out.lb
      obtain ⟨a2, c2, rfl, hq⟩ := HV.out
      have HQ := Lib.hid hq
      clear hq HV
      go_wp2
      exact HQ.out
theorem cells_of_reads {w : World} {a : Option Addr} {c : Nat} {xs : List ByteArray} {n : Nat} (h : Reads w (.slice a n c) n 1 (xs.map Value.string)) (hn : xs.length = n) (h0 : 0 < n) :
    ∃ b o, a = some ⟨b, o, none⟩ ∧ n ≤ c ∧ b < w.heap.size ∧ ∀ (j : Nat) (hj : j < xs.length), w.cell? ⟨b, o + j, none⟩ = some (.string xs[j]) := by
  obtain ⟨b, o, c', hv, hle, hb, hc⟩ := h.at h0
  cases hv
  exact ⟨b, o, rfl, hle, hb, fun j hj => hc j _ (by rw [List.getElem?_map, List.getElem?_eq_getElem hj]; rfl)⟩
theorem parts_pos (s sep : ByteArray) (h1 : 1 ≤ sep.size) : 0 < (partsB s sep).length := by rw [partsB_length _ _ h1]; omega
set_option maxRecDepth 100000 in
set_option maxHeartbeats 8000000 in
theorem rparse_prog (s : ByteArray) (hs : s.size ≤ 9000) (w : World) :
    Calls Tryz.prog 35 #[.string s] w (ParsedPost w (cutP stepR s) s) := by
  have HC0 := rcut_any s bar hs (by decide) (by decide) w
  unfold RCutPost at HC0
  have hpl : (partsB s bar).length ≤ 10000 := by
    rw [partsB_length _ _ (by decide)]
    have := partsB_count s bar
    omega
  have hp0 := parts_pos s bar (by decide)
  have HPS : Hid (∀ p ∈ partsB s bar, p.size ≤ 9000) := fun p hp => by have := partsB_size hp; omega
  have hL : cutP stepR s = (partsB s bar).map (cutS stepR) := rfl
  rw [hL]
  clear hL
  generalize partsB s bar = xs at *
  obtain ⟨n, hn⟩ : ∃ n, n = xs.length := ⟨_, rfl⟩
  rw [← hn] at HC0 hpl hp0
  have HN : Hid (xs.length = n) := hn.symm
  clear hn
  unfold bar at HC0
  have HC := Lib.hid HC0
  clear HC0
  have HTK : Hid (∀ m (hm : m < xs.length), ((xs.take (m + 1)).map (cutS stepR)) = ((xs.take m).map (cutS stepR)) ++ [cutS stepR xs[m]]) := fun m hm => by
    rw [List.take_succ_eq_append_getElem hm, List.map_append]; rfl
  have HNO : Hid (∀ w', ¬ TextIs (xs.map (cutS stepR)) s → Below w.heap.size w w' → ParsedPost w (xs.map (cutS stepR)) s (.returned (.tuple #[.slice none 0 0, .bool false])) w') := fun w' h hb => ParsedPost.no h hb
  have HYES : Hid (∀ (P : List RT) (a : Option Addr) (c : Nat) w', TextIs (xs.map (cutS stepR)) s → PrgU w' (.slice a P.length c) P → P.map RT.l = xs.map (cutS stepR) → Below w.heap.size w w' → ParsedPost w (xs.map (cutS stepR)) s (.returned (.tuple #[.slice a P.length c, .bool true])) w') := fun P a c w' h hP he hb => ParsedPost.yes h hP he hb
  generalize ParsedPost w (xs.map (cutS stepR)) s = Q at *
  go_enter Tryz.func35, Tryz.ntmps35
  go_wp2_with fail
  refine HC.out.mono ?_
  rintro e w1 ⟨a1, c1, rfl, hrd, hb1⟩
  obtain ⟨b, o, rfl, hle, hbl, hcl⟩ := cells_of_reads hrd HN.out hp0
  have HB1 := Lib.hid hb1
  have HCL := Lib.hid hcl
  clear hrd hb1 hcl HC
  go_wp2_with fail
  go_loopw [4, 6] (fun out i w' => ∃ (m : Nat) (P2 : List RT) (B : List Nat), m ≤ n ∧ i = .int .i64 m ∧ Hid (P2.length = m) ∧ Hid (GivenI 79 w1 w' out P2 B) ∧ Hid (P2.map RT.l = (xs.take m).map (cutS stepR)) ∧ Hid (Below w1.heap.size w1 w')) (fun _ i _ => n - (RowKit.intOf i).toNat)
  case atStart => exact ⟨0, [], [], by omega, rfl, rfl, GivenI.nil _ _ _, rfl, Below.refl _ _⟩
  case round =>
    obtain ⟨m, P2, B, hm, rfl, HLM, HG, HT, HB⟩ := hrel
    by_cases hlt : m < n
    · have hltx : m < xs.length := by rw [HN.out]; exact hlt
      have hc : wr.cell? ⟨b, o + m, none⟩ = some (.string xs[m]) := (HB.out.cell (p := ⟨b, o + m, none⟩) hbl).trans (HCL.out m hltx)
      have hxs := HPS.out _ (List.getElem_mem hltx)
      have HT2 : Hid (∀ r : RT, r.l = cutS stepR xs[m] → (P2 ++ [r]).map RT.l = (xs.take (m + 1)).map (cutS stepR)) := fun r hr => by
        rw [HTK.out m hltx, List.map_append, HT.out]; simp [hr]
      have HCX : Hid (∀ w', Below wr.heap.size wr w' → w'.cell? ⟨b, o + m, none⟩ = some (.string xs[m])) := fun w' h => (h.cell (p := ⟨b, o + m, none⟩) (by have := HB.out.size; simp only; omega)).trans hc
      generalize hxm : xs[m] = x at *
      clear hxm hltx
      have HCU0 := rcut_any x semi hxs (by decide) (by decide) wr
      unfold RCutPost at HCU0
      have hql : (partsB x semi).length ≤ 10000 := by
        rw [partsB_length _ _ (by decide)]
        have := partsB_count x semi
        omega
      have hq0 := parts_pos x semi (by decide)
      have HQS : Hid (∀ p ∈ partsB x semi, p.size ≤ 9000) := fun p hp => by have := partsB_size hp; omega
      have HCS : Hid (cutS stepR x = if x = ⟨#[]⟩ then [] else (partsB x semi).map stepR) := by
        rw [Hid]; unfold cutS
        by_cases h0 : x = ⟨#[]⟩
        · rw [if_pos h0, if_pos (by rw [h0]; rfl)]
        · rw [if_neg h0, if_neg (fun e => h0 (by rw [← ba_data x, List.eq_nil_of_length_eq_zero (l := x.data.toList) (by rw [← Lib.size_eq]; exact e)]))]
      generalize partsB x semi = ys at *
      obtain ⟨k, hk⟩ : ∃ k, k = ys.length := ⟨_, rfl⟩
      rw [← hk] at HCU0 hql hq0
      have HK : Hid (ys.length = k) := hk.symm
      clear hk
      unfold semi at HCU0
      have HCU := Lib.hid HCU0
      clear HCU0
      have hszr := HB.out.size
      obtain ⟨wo, rfl⟩ : ∃ wo : World, wo = wr := ⟨_, rfl⟩
      go_wp2_with fail
      refine HCU.out.mono ?_
      rintro e w3 ⟨a2, c2, rfl, hrd, hb3⟩
      obtain ⟨b2, o2, rfl, hle2, hbl2, hcl2⟩ := cells_of_reads hrd HK.out hq0
      have HB3 := Lib.hid hb3
      have HCL2 := Lib.hid hcl2
      clear hrd hb3 hcl2 HCU
      have hnn : ∃ nn : Nat, nn ≤ k ∧ ((x = ⟨#[]⟩ ∧ nn = 0) ∨ (¬ x = ⟨#[]⟩ ∧ nn = k)) := by
        by_cases h0 : x = ⟨#[]⟩
        · exact ⟨0, by omega, .inl ⟨h0, rfl⟩⟩
        · exact ⟨k, Nat.le_refl _, .inr ⟨h0, rfl⟩⟩
      obtain ⟨nn, hnk, hnx⟩ := hnn
      have HNX := Lib.hid hnx
      have HCE : Hid ((ys.take nn).map stepR = cutS stepR x) := by
        rw [Hid, HCS.out]
        rcases hnx with ⟨h0, h1⟩ | ⟨h0, h1⟩
        · rw [if_pos h0, h1]; rfl
        · rw [if_neg h0, h1, ← HK.out, List.take_length]
      have HTQ : Hid (∀ q (hq : q < ys.length), ((ys.take (q + 1)).map stepR).flatMap stcells = ((ys.take q).map stepR).flatMap stcells ++ stcells (stepR ys[q])) := fun q hq => by
        rw [List.take_succ_eq_append_getElem hq, List.map_append, List.flatMap_append]; simp
      rw [← HCE.out] at HT2
      clear HCS hnx HCE
      go_wp2_with fail
      go_loopw [7, 9] (fun l i w' => ∃ q : Nat, q ≤ nn ∧ i = .int .i64 q ∧ Hid (Row w' 81 3 l q (((ys.take q).map stepR).flatMap stcells) (fun k => w3.heap.size ≤ k)) ∧ Hid (Below w3.heap.size w3 w')) (fun _ i _ => nn - (RowKit.intOf i).toNat)
      case atStart => exact ⟨0, by omega, rfl, Row.nil _ _ _ _, Below.refl _ _⟩
      case round =>
        obtain ⟨q, hq, rfl, HO, HB4⟩ := hrel
        have HB34 := Lib.hid (HB3.out.trans (HB4.out.mono HB3.out.size))
        have hcx := HCX.out _ HB34.out
        by_cases hltq : q < nn
        · have hltk : q < k := by omega
          have hlty : q < ys.length := by rw [HK.out]; exact hltk
          have hx0 : ¬ x = ⟨#[]⟩ := fun e => by
            rcases HNX.out with ⟨h0, h1⟩ | ⟨h0, h1⟩
            · omega
            · exact h0 e
          have he := str_isEmpty hx0
          have hcy : wr.cell? ⟨b2, o2 + q, none⟩ = some (.string ys[q]) := (HB4.out.cell (p := ⟨b2, o2 + q, none⟩) hbl2).trans (HCL2.out q hlty)
          have HSP := Lib.hid (rstep_any ys[q] (HQS.out _ (List.getElem_mem hlty)) wr)
          have HTM := Lib.hid (HTQ.out q hlty)
          clear hx0 hc
          generalize ys[q] = y at *
          unfold ST.val at HSP
          generalize stepR y = z at *
          obtain ⟨zk, zn, zs⟩ := z
          simp only at *
          go_wp2_with fail
          refine HSP.out.mono ?_
          rintro e w4 ⟨rfl, hb4⟩
          have HB5 := Lib.hid (HB4.out.trans (hb4.mono HB4.out.size))
          have HO4 : Hid (Row w4 81 3 u7 q (((ys.take q).map stepR).flatMap stcells) (fun k => w3.heap.size ≤ k)) := HO.out.frame (fun k _ hk => hb4.block k hk)
          clear hb4 hcy hcx HSP
          have hbl5 := HB5.out.size
          go_wp2_with (
            refine wpList_row elemStepR rfl rfl (S := fun k => w3.heap.size ≤ k) (n := q) (xs := ((ys.take q).map stepR).flatMap stcells) rfl (HO4.out.frame (fun k _ hk => Below.heap_alloc _ _ _ hk)) (y := .slice (some ⟨w4.heap.size, 0, none⟩) 1 1) (m := 1) (news := [.int .i64 zk, .int .i64 zn, .string zs]) rfl (Reads.single (heap_alloc_new w4 _)) (by intro u hu; simp only [List.mem_cons, List.not_mem_nil, or_false] at hu; rcases hu with rfl | rfl | rfl <;> rfl) (by unfold maxLen; omega) (by omega) ?_
            intro v5 w5 hr5 hch5)
          go_roundw
          case rel =>
            refine ⟨q + 1, by omega, by go_num, ?_, (HB5.out.alloc hbl5 _).trans (hch5.toBelow (by simp <;> omega) (fun n hn h => by omega))⟩
            rw [Hid, HTM.out]
            exact hr5.mono (fun k hk => by rcases hk with hk | hk; exact hk; simp only [World.size_alloc] at hk; omega)
          case measure => simp [RowKit.intOf]; omega
        · obtain rfl : q = nn := by omega
          have HO2 : Hid (∃ r2 : RT, r2.l = (ys.take q).map stepR ∧ u7 = r2.v ∧ (∀ ad, r2.a = some ad → w3.heap.size ≤ ad.block ∧ ad.block < wr.heap.size) ∧ r2.inw wr) := by
            have hO := HO.out
            have hlq : q = ((ys.take q).map stepR).length := by rw [List.length_map, List.length_take, HK.out]; omega
            have hO2 : Row wr 81 3 u7 ((ys.take q).map stepR).length (((ys.take q).map stepR).flatMap stcells) (fun k => w3.heap.size ≤ k) := by rw [← hlq]; exact hO
            obtain ⟨r2, h1, h2, h3, h4⟩ := hO2.rt
            refine ⟨r2, h1, h2, h3, h4, ?_, ?_, ?_⟩
            · rw [h1, ← hlq]; unfold maxLen; omega
            · rw [h1]
              intro z hz
              obtain ⟨p, hp, rfl⟩ := List.mem_map.1 hz
              exact stepR_ok p (by have := HQS.out p (List.mem_of_mem_take hp); omega)
            · rw [h1, ← hlq]; omega
          obtain ⟨⟨rl, ra, rc⟩, hr2l, hu7, HA2, HIN2⟩ := HO2.out
          obtain rfl : u7 = .slice ra rl.length rc := hu7
          have HTN := Lib.hid (HT2.out ⟨rl, ra, rc⟩ hr2l)
          have HIN := Lib.hid HIN2
          have HA := Lib.hid HA2
          clear HO HO2 HIN2 HA2 hr2l HT2 HTQ hc
          have hbs3 := HB3.out.size
          have hbs4 := HB4.out.size
          obtain ⟨mm, hmm⟩ : ∃ mm, mm = P2.length := ⟨_, rfl⟩
          have HM : Hid (mm = P2.length) := hmm
          have hmm2 : mm = m := by rw [hmm]; exact HLM.out
          clear hmm HLM
          subst hmm2
          have HGR : Hid (Row wr 79 1 u4 mm (P2.map RT.v) (fun k => w1.heap.size ≤ k ∧ k < wo.heap.size ∧ k ∉ B)) := by
            rw [HM.out]; exact HG.out.row.frame (fun k hk hk2 => HB34.out.block k hk.2.1)
          have hend : (x = ⟨#[]⟩ ∧ x.toList.isEmpty = true ∧ q < k) ∨ (x.toList.isEmpty = false ∧ ¬ q < k) := by
            rcases HNX.out with ⟨h0, h1⟩ | ⟨h0, h1⟩
            · exact .inl ⟨h0, by rw [h0, ByteArray.toList_eq]; rfl, by omega⟩
            · exact .inr ⟨str_isEmpty h0, by omega⟩
          rcases hend with ⟨-, he, hlk⟩ | ⟨he, hlk⟩
          all_goals
            go_wp2_with (
              refine wpList_row elemRowR rfl rfl (S := fun k => w1.heap.size ≤ k ∧ k < wo.heap.size ∧ k ∉ B) (n := mm) (xs := P2.map RT.v) rfl (HGR.out.frame (fun k _ hk => Below.heap_alloc _ _ _ hk)) (y := .slice (some ⟨wr.heap.size, 0, none⟩) 1 1) (m := 1) (news := [.slice ra rl.length rc]) rfl (reads_one wr _ _) (one_of rfl) (by unfold maxLen; omega) (by omega) ?_
              intro v5 w5 hr5 hch5)
            have HS5 : Hid (∃ B', GivenI 79 w1 w5 v5 (P2 ++ [⟨rl, ra, rc⟩]) B') := by
              refine given_step hszr HG.out HB34.out HIN.out (fun ad had => by have := HA.out ad had; omega) ?_ hch5
              rw [← HM.out]
              exact hr5
            obtain ⟨B', HG5⟩ := HS5.out
            have HB5 : Hid (Below w1.heap.size w1 w5) := ((HB.out.trans (HB34.out.mono hszr)).alloc (by omega) _).trans (hch5.toBelow (by simp; omega) (fun n hn h => by have := h.1; omega))
            clear hr5 hch5 HS5 HGR HG HB34 HIN HA
            go_roundw
            case rel => exact ⟨mm + 1, P2 ++ [⟨rl, ra, rc⟩], B', by omega, by go_num, by simp [Hid, HM.out], Lib.hid HG5, HTN, HB5⟩
            case measure => simp [RowKit.intOf]; omega
    · obtain rfl : m = n := by omega
      have HT3 : Hid (P2.map RT.l = xs.map (cutS stepR)) := by rw [Hid, HT.out, ← HN.out, List.take_length]
      have HV : Hid (∃ a2 c2, u4 = .slice a2 P2.length c2 ∧ PrgU wr (.slice a2 P2.length c2) P2) := HG.out.prg (by rw [HLM.out]; omega)
      obtain ⟨a2, c2, rfl, hprg⟩ := HV.out
      have HPG := Lib.hid hprg
      have HBE := Lib.hid (HB1.out.trans (HB.out.mono HB1.out.size))
      have hpl2 : P2.length ≤ 10000 := by rw [HLM.out]; omega
      clear hprg HV HLM HG HT HTK HB
      go_wp2_with fail
      refine (prright_any a2 c2 P2 wr HPG.out).mono ?_
      rintro e w5 ⟨rb, rfl, hrb, hb5⟩
      have HRB := Lib.hid hrb
      have HPG5 := Lib.hid (HPG.out.later hb5)
      have HB5 := Lib.hid (HBE.out.trans (hb5.mono HBE.out.size))
      clear hrb hb5 HPG HBE
      cases rb with
      | false =>
        have HV := Lib.hid (HNO.out w5 (fun h => by
          have h1 := h.1
          rw [← HT3.out] at h1
          have := HRB.out.2 ((rightP_iff P2).2 h1)
          cases this) HB5.out)
        clear HRB HNO HYES
        go_wp2
        exact HV.out
      | true =>
        have HRL : Hid (RightL (xs.map (cutS stepR))) := by rw [Hid, ← HT3.out]; exact (rightP_iff P2).1 (HRB.out.1 rfl)
        clear HRB
        go_wp2_with fail
        refine (rptext_any a2 c2 P2 w5 HPG5.out).mono ?_
        rintro e w6 ⟨rfl, hb6⟩
        have HPG6 := Lib.hid (HPG5.out.later hb6)
        have HB6 := Lib.hid (HB5.out.trans (hb6.mono HB5.out.size))
        have HTI := Lib.hid (textIs_iff (xs.map (cutS stepR)) s HRL.out)
        rw [HT3.out]
        clear hb6 HPG5 HB5
        generalize textL (xs.map (cutS stepR)) = tx at *
        by_cases hx : tx = s
        · have HV := Lib.hid (HYES.out P2 a2 c2 w6 (HTI.out.2 hx) HPG6.out HT3.out HB6.out)
          subst hx
          clear HTI HNO HYES
          go_wp2
          exact HV.out
        · have HV := Lib.hid (HNO.out w6 (fun h => hx (HTI.out.1 h)) HB6.out)
          have hx1 := (str_ne hx).1
          have hx2 := (str_ne hx).2
          clear hx HTI HNO HYES
          go_wp2
          exact HV.out
theorem lrT_len {l : List ST} (hl : l.length ≤ 200) (h : ∀ x ∈ l, x.ok ∧ x.s.size ≤ 1000) : (lrT l).length ≤ 700000 := by
  unfold lrT
  have := join_le (s := [59, 32]) (K := 3000) (l := l.map fun x => (stextB x).data.toList) (fun u hu => by
    obtain ⟨x, hx, rfl⟩ := List.mem_map.1 hu
    exact stext_len (h x hx).1 (h x hx).2)
  have h2 : ([59, 32] : List UInt8).length = 2 := rfl
  rw [h2, List.length_map] at this
  omega
theorem fine_right {L : List (List ST)} (h : RightL L) (ho : ∀ l ∈ L, ∀ x ∈ l, x.ok) : Fine ⟨(lpT L).toArray⟩ := by
  have hs : ∀ l ∈ L, ∀ x ∈ l, x.s.size ≤ 1000 := fun l hl x hx => (rightB_norm ((h.2.2 l hl).2 x hx)).2
  refine ⟨?_, fun p hp q hq => ?_⟩
  · rw [mk_size]
    unfold lpT
    have := join_le (s := [32, 124, 32]) (K := 700000) (l := L.map lrT) (fun u hu => by
      obtain ⟨l, hl, rfl⟩ := List.mem_map.1 hu
      exact lrT_len (h.2.2 l hl).1 (fun x hx => ⟨ho l hl x hx, hs l hl x hx⟩))
    have h2 : ([32, 124, 32] : List UInt8).length = 3 := rfl
    rw [h2, List.length_map] at this
    have := h.2.1
    omega
  · cases L with
    | nil => exact absurd rfl h.ne
    | cons a r =>
      rw [parts_lp a r (fun l hl x hx => h.norm l hl x hx)] at hp
      obtain ⟨l, hl, rfl⟩ := List.mem_map.1 hp
      cases l with
      | nil =>
        have := partsB_size hq
        have e : (⟨(lrT []).toArray⟩ : ByteArray).size = 0 := rfl
        omega
      | cons x t =>
        rw [parts_lr x t (fun y hy => h.norm _ hl y hy)] at hq
        obtain ⟨y, hy, rfl⟩ := List.mem_map.1 hq
        have := stext_len (ho _ hl y hy) (hs _ hl y hy)
        rw [← Lib.size_eq] at this
        omega
theorem PrgU.oks {w : World} {v : Value} {P : List RT} (h : PrgU w v P) : ∀ l ∈ P.map RT.l, ∀ x ∈ l, x.ok := fun l hl x hx => by
  obtain ⟨r, hr, rfl⟩ := List.mem_map.1 hl
  exact (h.each r hr).ok x hx
theorem text_parse {L : List (List ST)} (ho : ∀ l ∈ L, ∀ x ∈ l, x.ok) : Fine (textL L) ∧ (RightL L → TextIs (cutP stepP (textL L)) (textL L) ∧ cutP stepP (textL L) = L) := by
  by_cases h : RightL L
  · have e : textL L = ⟨(lpT L).toArray⟩ := by unfold textL; rw [if_pos h]
    rw [e]
    have hc : cutP stepP ⟨(lpT L).toArray⟩ = L := cutP_text backP L h.ne (fun l hl x hx => ⟨h.norm l hl x hx, ho l hl x hx⟩)
    exact ⟨fine_right h ho, fun _ => ⟨by rw [hc]; exact ⟨h, rfl⟩, hc⟩⟩
  · have e : textL L = ⟨#[]⟩ := by unfold textL; rw [if_neg h]
    rw [e]
    exact ⟨fine_small (by decide), fun h2 => absurd h2 h⟩
theorem parses_meet {s : ByteArray} (hs : s.size ≤ 1000000) {P Q : List RT} {ok is : Bool}
    (h1 : (TextIs (cutP stepP s) s ∧ ok = true ∧ P.map RT.l = cutP stepP s) ∨ (¬ TextIs (cutP stepP s) s ∧ ok = false ∧ P = []))
    (h2 : (TextIs (cutP stepR s) s ∧ is = true ∧ Q.map RT.l = cutP stepR s) ∨ (¬ TextIs (cutP stepR s) s ∧ is = false ∧ Q = [])) :
    ok = is ∧ P.map RT.l = Q.map RT.l ∧ (ok = true → textL (P.map RT.l) = s) := by
  obtain ⟨h3, h4⟩ := readers_agree s hs
  rcases h1 with ⟨a1, rfl, a3⟩ | ⟨a1, rfl, rfl⟩
  · rcases h2 with ⟨b1, rfl, b3⟩ | ⟨b1, rfl, rfl⟩
    · exact ⟨rfl, by rw [a3, b3]; exact h4 a1, fun _ => by rw [a3]; exact (textIs_iff _ s a1.1).1 a1⟩
    · exact absurd (h3.1 a1) b1
  · rcases h2 with ⟨b1, rfl, b3⟩ | ⟨b1, rfl, rfl⟩
    · exact absurd (h3.2 b1) a1
    · exact ⟨rfl, rfl, fun h => by cases h⟩
set_option maxRecDepth 100000 in
set_option maxHeartbeats 4000000 in
theorem parses_law (s : ByteArray) (hsz : s.size ≤ 9223372036854775807) (w : World) (hw : PW w) :
    Calls Tryz.prog 7 #[.string s] w fun e w' => e = .returned (.bool true) ∧ Below w.heap.size w w' := by
  have HW := Lib.hid hw
  clear hw
  by_cases hs : (600 : Int) < (s.size : Int)
  · go_enter Tryz.func7, Tryz.ntmps7
    go_wp2_with fail
    refine (alive_any _ HW.out.words).mono ?_
    rintro e w3 ⟨rfl, hb⟩
    have HB := Lib.hid hb
    clear hb
    go_wp2
    go_ret
    exact ⟨rfl, HB.out⟩
  · have HPP := fun W hW => Lib.hid (pparse_any s (fine_small (by omega)) W hW)
    have HRP := fun W => Lib.hid (rparse_prog s (by omega) W)
    have HMEET : Hid (∀ (P Q : List RT) (ok is : Bool), _ → _ → ok = is ∧ P.map RT.l = Q.map RT.l ∧ (ok = true → textL (P.map RT.l) = s)) := fun P Q ok is h1 h2 => parses_meet (s := s) (by omega) h1 h2
    go_enter Tryz.func7, Tryz.ntmps7
    go_wp2_with fail
    refine (HPP _ HW.out).out.mono ?_
    rintro e w1 ⟨P, a1, c1, ok, rfl, hP, hres, hb1⟩
    have HP1 := Lib.hid hP
    have HRES := Lib.hid hres
    have HB1 := Lib.hid hb1
    clear hP hres hb1 HPP
    go_wp2_with fail
    refine (HRP _).out.mono ?_
    rintro e w2 ⟨P2, a2, c2, is, rfl, hP2, hres2, hb2⟩
    have HP2 := Lib.hid (HP1.out.later hb2)
    have HQ2 := Lib.hid hP2
    have HB2 := Lib.hid (HB1.out.trans (hb2.mono HB1.out.size))
    obtain ⟨rfl, heq, htx⟩ := HMEET.out P P2 ok is HRES.out hres2
    have HEQ := Lib.hid heq
    have HTX := Lib.hid htx
    clear hP2 hres2 hb2 HRP HMEET HRES HP1 HB1 heq htx
    go_wp2_with fail
    refine (alive_any _ (HW.out.later HB2.out).words).mono ?_
    rintro e w3 ⟨rfl, hb3⟩
    have HP3 := Lib.hid (HP2.out.later hb3)
    have HQ3 := Lib.hid (HQ2.out.later hb3)
    have HB3 := Lib.hid (HB2.out.trans (hb3.mono HB2.out.size))
    clear hb3 HP2 HQ2 HB2
    have hbb : (ok == ok) = true := by cases ok <;> rfl
    go_wp2_with fail
    refine (back_any a1 c1 P w3 HP3.out).mono ?_
    rintro e w4 ⟨P4, a4, c4, rfl, hP4, he4, hb4⟩
    have HR4 := Lib.hid hP4
    have HE4 := Lib.hid he4
    have HP4 := Lib.hid (HP3.out.later hb4)
    have HQ4 := Lib.hid (HQ3.out.later hb4)
    have HB4 := Lib.hid (HB3.out.trans (hb4.mono HB3.out.size))
    clear hP4 he4 hb4 HP3 HQ3 HB3
    go_wp2_with fail
    refine (prsame_any _ _ _ _ P4 P2 _ HR4.out HQ4.out).mono ?_
    rintro e w5 ⟨sm, rfl, hsm, hb5⟩
    obtain rfl : sm = true := hsm.2 (by rw [HE4.out, HEQ.out])
    have HP5 := Lib.hid (HP4.out.later hb5)
    have HB5 := Lib.hid (HB4.out.trans (hb5.mono HB4.out.size))
    clear hsm hb5 HP4 HQ4 HB4 HR4 HE4
    cases ok with
    | false =>
      go_wp2
      go_ret
      exact ⟨rfl, HB5.out⟩
    | true =>
      have HT := Lib.hid (HTX.out rfl)
      go_wp2_with fail
      refine (ptext_u a1 c1 P _ HP5.out (HW.out.later HB5.out).words (HW.out.later HB5.out).tabs.pow).mono ?_
      rintro e w6 ⟨rfl, hb6⟩
      have HB6 := Lib.hid (HB5.out.trans (hb6.mono HB5.out.size))
      clear hb6
      rw [HT.out]
      clear HTX HT
      go_wp2
      go_ret
      exact ⟨rfl, HB6.out⟩
set_option maxRecDepth 100000 in
set_option maxHeartbeats 4000000 in
theorem texts_law (a : Option Addr) (c : Nat) (P : List RT) (w : World) (h : PrgU w (.slice a P.length c) P) (hw : PW w) :
    Calls Tryz.prog 6 #[.slice a P.length c] w fun e w' => e = .returned (.bool true) ∧ Below w.heap.size w w' := by
  have HP := Lib.hid h
  have HW := Lib.hid hw
  have HOK := Lib.hid h.oks
  clear h hw
  go_enter Tryz.func6, Tryz.ntmps6
  go_wp2_with fail
  refine (rfew_any _ _ _ _ HP.out).mono ?_
  rintro e w1 ⟨⟨b1, rfl⟩, hw1⟩
  obtain rfl := hw1.symm
  clear hw1
  cases b1 with
  | false =>
    go_wp2_with fail
    refine (alive_any _ HW.out.words).mono ?_
    rintro e w3 ⟨rfl, hb⟩
    have HB := Lib.hid hb
    clear hb
    go_wp2
    go_ret
    exact ⟨rfl, HB.out⟩
  | true =>
    go_wp2_with fail
    refine (given_any _ _ P _ HP.out).mono ?_
    rintro e w2 ⟨P2, a3, c3, rfl, hp2, he2, hb2⟩
    have HP2 := Lib.hid hp2
    have HE2 := Lib.hid he2
    have HB2 := Lib.hid hb2
    clear hp2 he2 hb2
    go_wp2_with fail
    refine (check_u rightB a3 c3 P2 w2 HP2.out (fun r h2 h20 h200 x hx W => right_any x _ _ (by omega) (by omega) W)).mono ?_
    rintro e w3 ⟨i, k, ok, rfl, hch, hb3⟩
    have HCH := Lib.hid hch
    have HB3 := Lib.hid (HB2.out.trans (hb3.mono HB2.out.size))
    clear hch hb3 HP2 HB2
    go_wp2_with fail
    refine (rcheck_any a c P w3 (HP.out.later HB3.out)).mono ?_
    rintro e w4 ⟨i2, k2, ok2, rfl, hch2, hb4⟩
    obtain ⟨rfl, rfl, rfl⟩ := checked_same HCH.out hch2 HE2.out
    have HOKR := Lib.hid (checked_iff hch2)
    have HB4 := Lib.hid (HB3.out.trans (hb4.mono HB3.out.size))
    clear hch2 hb4 HB3 HCH HE2
    go_wp2_with fail
    refine (given_any _ _ P _ (HP.out.later HB4.out)).mono ?_
    rintro e w5 ⟨P5, a5, c5, rfl, hp5, he5, hb5⟩
    have HP5 := Lib.hid hp5
    have HE5 := Lib.hid he5
    have HB5 := Lib.hid (HB4.out.trans (hb5.mono HB4.out.size))
    clear hp5 he5 hb5 HB4
    go_wp2_with fail
    refine (ptext_u a5 c5 P5 w5 HP5.out (HW.out.later HB5.out).words (HW.out.later HB5.out).tabs.pow).mono ?_
    rintro e w6 ⟨rfl, hb6⟩
    have HB6 := Lib.hid (HB5.out.trans (hb6.mono HB5.out.size))
    rw [HE5.out]
    clear hb6 HB5 HP5 HE5
    have HTP := Lib.hid (text_parse HOK.out)
    have HRT := fun W hW => Lib.hid (rptext_any a c P W hW)
    have HRL := Lib.hid (rightP_iff P)
    generalize textL (P.map RT.l) = tx at *
    have hk1 : (i != i) = false := bne_self_eq_false i
    have hk2 : (k != k) = false := bne_self_eq_false k
    have hk3 : (ok != ok) = false := by cases ok <;> rfl
    go_wp2_with fail
    refine (HRT _ (HP.out.later HB6.out)).out.mono ?_
    rintro e w7 ⟨rfl, hb7⟩
    have HB7 := Lib.hid (HB6.out.trans (hb7.mono HB6.out.size))
    clear hb7 HB6 HRT
    go_wp2_with fail
    refine (pparse_any tx HTP.out.1 w7 (HW.out.later HB7.out)).mono ?_
    rintro e w8 ⟨P8, a8, c8, bk, rfl, hP8, hres, hb8⟩
    have HP8 := Lib.hid hP8
    have HB8 := Lib.hid (HB7.out.trans (hb8.mono HB7.out.size))
    have HRES : Hid (ok = true → bk = true ∧ P8.map RT.l = P.map RT.l) := fun ho => by
      have hr := HTP.out.2 (HRL.out.1 (HOKR.out.1 ho))
      rcases hres with ⟨_, r2, r3⟩ | ⟨r1, _, _⟩
      · exact ⟨r2, by rw [r3, hr.2]⟩
      · exact absurd hr.1 r1
    clear hP8 hres hb8 HB7 HTP HRL HOKR
    go_wp2_with fail
    refine (alive_any _ (HW.out.later HB8.out).words).mono ?_
    rintro e w9 ⟨rfl, hb9⟩
    have HP9 := Lib.hid (HP8.out.later hb9)
    have HB9 := Lib.hid (HB8.out.trans (hb9.mono HB8.out.size))
    clear hb9 HP8 HB8
    cases ok with
    | false =>
      go_wp2
      go_ret
      exact ⟨rfl, HB9.out⟩
    | true =>
      obtain ⟨rfl, he8⟩ := HRES.out rfl
      have HE8 := Lib.hid he8
      clear he8 HRES
      go_wp2_with fail
      refine (back_any a8 c8 P8 w9 HP9.out).mono ?_
      rintro e w10 ⟨P10, a10, c10, rfl, hP10, he10, hb10⟩
      have HP10 := Lib.hid hP10
      have HE10 := Lib.hid he10
      have HB10 := Lib.hid (HB9.out.trans (hb10.mono HB9.out.size))
      clear hP10 he10 hb10 HP9 HB9
      go_wp2_with fail
      refine (prsame_any _ _ _ _ P10 P _ HP10.out (HP.out.later HB10.out)).mono ?_
      rintro e w11 ⟨sm, rfl, hsm, hb11⟩
      obtain rfl : sm = true := hsm.2 (by rw [HE10.out, HE8.out])
      have HB11 := Lib.hid (HB10.out.trans (hb11.mono HB10.out.size))
      clear hsm hb11
      go_wp2
      go_ret
      exact ⟨rfl, HB11.out⟩
end Go.Proofs.YtpijpeocdlnhiaaGreatDoor
namespace Go.Proofs.YtpijpeocdlnhiaaGreatDoor
open Go.ChangeShapes Go.WideShapes Go.ChangeAt Go.RowKit
theorem own : ownKnob Tryz.prog.godebug = none := by kernel_rfl
theorem laidOut : laidOutB Tryz.prog = true := by kernel_rfl
section
variable {H : Type} {enc : TypeId × Value → H}
theorem trodAll_below {W W' : World} (bel : Below W.heap.size W W') : ∀ {ts : List TypeId} {vs : List Value} {ds : List (DataW H)} {ps : List MemPlace},
    (∀ t ∈ ts, Tryz.prog.readableRec t = true ∧ t < Tryz.prog.types.size) → DataW.TrodAll enc Tryz.prog W 0 (fun _ => true) true ts vs ds ps → DataW.TrodAll enc Tryz.prog W' 0 (fun b => decide (b < W.heap.size)) true ts vs ds ps
  | [], vs, ds, ps, _, h => by
    obtain ⟨rfl, rfl, rfl⟩ := trodAll_nil h
    exact trodAll_mk0
  | t :: ts, vs, ds, ps, hr, h => by
    obtain ⟨v, vs', d, ds', p, q, rfl, rfl, rfl, h0, r0⟩ := trodAll_cons h
    obtain ⟨h1, h2⟩ := hr t (List.mem_cons_self ..)
    have lt0 : ∀ x ∈ p, x.block < W.heap.size := by obtain ⟨m, hm⟩ := h0; exact DataW.trod_lt m _ _ _ hm
    exact trodAll_cons_mk (Below.trod laidOut h1 h2 h0 bel lt0) (trodAll_below bel (fun t' ht' => hr t' (List.mem_cons_of_mem _ ht')) r0)
theorem law_post {f : Func} {s : ChangeSpec} {W W' : World} {args : Array Value} {ds : List (DataW H)} {before : List MemPlace} {v : Value}
    (hv : v = .bool true) (hrt : f.resultTypes = #[4]) (hvars : s.vars = []) (hr : ∀ t ∈ f.params.toList, Tryz.prog.readableRec t = true ∧ t < Tryz.prog.types.size)
    (hs : s.fn H (ds ++ []) = { results := [.lit (.bool true)], args := ds }) (hW : DataW.Whole enc Tryz.prog f.params.toList s.vars false W args.toList ds [] before)
    (bel : Below W.heap.size W W') : s.post enc Tryz.prog f false true false false W args v W' := by
  subst hv
  have hA : ∃ p, DataW.TrodAll enc Tryz.prog W 0 (fun _ => true) true f.params.toList args.toList ds p := by obtain ⟨p, q, hA, -⟩ := hW; exact ⟨p, hA⟩
  obtain ⟨p, hA⟩ := hA
  refine ⟨ds, [], before, [], p, [], hW, ?_, ?_, ?_, bel.frame _, fun h => by cases h⟩
  · rw [hs, hrt]; exact trodAll_mk1 (shut_bool Tryz.underlying4 _)
  · rw [hs]; exact trodAll_below bel hr hA
  · rw [hvars, hs]; rfl
end
abbrev laidP : List (String × DataW Unit) := Rows.programTextsRow.laid
theorem laid_met (os : Os) (args : Array Value) : laidMetH Tryz.prog laidP ((World.laidAll Tryz.prog os laidP).forCall (fun _ _ => 0) ⟨#[], args, []⟩).memory := by
  rw [MakeChecks.laidMetH_plain _ _ _ (by kernel_rfl)]
  exact laidMet_laidAll _ (by kernel_rfl) (by kernel_rfl)
theorem gPow : Tryz.prog.globalNamed powName = some 3 := by kernel_rfl
theorem gPowType : (Tryz.prog.globals[3]?).map (·.type) = some 203 := by kernel_rfl
theorem cellsU64 : Tryz.prog.cellsOf 70 = 1 := by kernel_rfl
theorem cellsPow : Tryz.prog.cellsOf 203 = 20 := by kernel_rfl
theorem tab_of_laid {W : World} (h : laidMetH Tryz.prog laidP W) : Tab W := by
  rw [MakeChecks.laidMetH_plain _ _ _ (by kernel_rfl)] at h
  have h3 := laidMet.filter (fun x => x.1 == powName) h
  exact Lib.tabIs_of_head gPow gPowType Tryz.underlying203 Tryz.underlying70 cellsU64 cellsPow (rest := []) (by exact h3)
abbrev deName : String := "math/bits.deBruijn64tab"
abbrev deList : List Int := [0, 1, 56, 2, 57, 49, 28, 3, 61, 58, 42, 50, 38, 29, 17, 4, 62, 47, 59, 36, 45, 43, 51, 22, 53, 39, 33, 30, 24, 18, 12, 5, 63, 55, 48, 27, 60, 41, 37, 16, 46, 35, 44, 21, 52, 32, 23, 11, 54, 26, 40, 15, 34, 20, 31, 10, 25, 14, 19, 9, 13, 8, 7, 6]
theorem gDe : Tryz.prog.globalNamed deName = some 9 := by kernel_rfl
theorem gDeType : (Tryz.prog.globals[9]?).map (·.type) = some 227 := by kernel_rfl
theorem cellsU8' : Tryz.prog.cellsOf 5 = 1 := by kernel_rfl
theorem cellsDe : Tryz.prog.cellsOf 227 = 64 := by kernel_rfl
theorem de_of_laid {W : World} (h : laidMetH Tryz.prog laidP W) : W.cell? ⟨9, 15, none⟩ = some (.int .u8 4) := by
  rw [MakeChecks.laidMetH_plain _ _ _ (by kernel_rfl)] at h
  have h3 := laidMet.filter (fun x => x.1 == deName) h
  have h4 : Lib.TabIs Tryz.prog W deName .u8 deList := Lib.tabIs_of_head gDe gDeType Tryz.underlying227 Tryz.underlying5 cellsU8' cellsDe (rest := []) (by exact h3)
  exact h4.cell gDe 15 (by decide)
theorem tabs_of_laid {W : World} (h : laidMetH Tryz.prog laidP W) : Tabs W := ⟨tab_of_laid h, de_of_laid h⟩
set_option maxRecDepth 100000 in
theorem sent_of_laid {W : World} {name : String} {n : Nat} {nm : String} {d : DataW Unit} (hg0 : Tryz.prog.globalNamed name = some n) (ht0 : (Tryz.prog.globals[n]?).map (·.type) = some 131)
    (e : laidP.filter (fun x => x.1 == name) = [(name, .iface nm d)]) (h : laidMet Tryz.prog laidP W) : ∃ ev, W.cell? ⟨n, 0, none⟩ = some ev ∧ (ev = .nilIface ∨ ∃ te pe, ev = .iface te pe) := by
  have h3 := laidMet.filter (fun x => x.1 == name) h
  rw [e] at h3
  obtain ⟨ps, ⟨g, t, cs, fuel, p, q, hg, ht, hv, hd, _, _⟩, _, _⟩ := h3
  obtain rfl := Option.some.inj (hg0.symm.trans hg)
  obtain rfl := Option.some.inj (ht0.symm.trans ht)
  obtain ⟨fuel', u, v, hcs, _, _⟩ := iface_of_trod Tryz.underlying131 hd
  refine ⟨.iface u v, ?_, .inr ⟨u, v, rfl⟩⟩
  rw [World.var?_cell hg hv 0]
  have h0 : cs.toList[0]? = some (.iface u v) := by rw [hcs]; rfl
  simpa using h0
theorem errs_of_laid {W : World} (h : laidMetH Tryz.prog laidP W) : Errs W := by
  rw [MakeChecks.laidMetH_plain _ _ _ (by kernel_rfl)] at h
  exact ⟨sent_of_laid (name := "strconv.ErrSyntax") (nm := "*errors.errorString") (d := .ptr (.agg [.lit (.string [105, 110, 118, 97, 108, 105, 100, 32, 115, 121, 110, 116, 97, 120])])) (by kernel_rfl) (by kernel_rfl) (by kernel_rfl) h, sent_of_laid (name := "strconv.ErrRange") (nm := "*errors.errorString") (d := .ptr (.agg [.lit (.string [118, 97, 108, 117, 101, 32, 111, 117, 116, 32, 111, 102, 32, 114, 97, 110, 103, 101])])) (by kernel_rfl) (by kernel_rfl) (by kernel_rfl) h⟩
theorem base_of_laid {W : World} (h : laidMetH Tryz.prog laidP W) : Base W := ⟨errs_of_laid h, de_of_laid h⟩
theorem words_data : (Rows.laid_clockwork_program_words : DataW Unit) = .agg (wordsL.map fun s => .lit (.string s.data.toList)) := by kernel_rfl
theorem words_of_laid {W : World} (h : laidMetH Tryz.prog laidP W) : Words W := by
  rw [MakeChecks.laidMetH_plain _ _ _ (by kernel_rfl)] at h
  have h3 := laidMet.filter (fun x => x.1 == "clockwork/program.words") h
  have e : laidP.filter (fun x => x.1 == "clockwork/program.words") = [("clockwork/program.words", .agg (wordsL.map fun s => .lit (.string s.data.toList)))] := by rw [← words_data]; kernel_rfl
  rw [e] at h3
  obtain ⟨ps, ⟨g, t, cs, fuel, p, q, hg, ht, hv, hd, _, _⟩, _, _⟩ := h3
  obtain rfl := Option.some.inj ((show Tryz.prog.globalNamed "clockwork/program.words" = some 0 by kernel_rfl).symm.trans hg)
  obtain rfl := Option.some.inj ((show (Tryz.prog.globals[0]?).map (·.type) = some 125 by kernel_rfl).symm.trans ht)
  obtain ⟨xs, m, _, ex, _, hl, hel⟩ := DataW.trod_array Tryz.underlying125 hd
  have c5 : Tryz.prog.cellsOf 9 = 1 := by kernel_rfl
  have e3 : (xs.map (·.1)) = wordsL.map fun s => (DataW.lit (.string s.data.toList) : DataW Unit) := (DataW.agg.inj (Prod.mk.inj ex).1).symm
  have hc : ∀ i x, wordsL[i]? = some x → W.cell? ⟨0, i, none⟩ = some (.string x) := by
    intro i x hx
    have hi : i < 13 := (List.getElem?_eq_some_iff.1 hx).1
    have hE := hel i hi
    rw [c5, Nat.mul_one, List.getElem?_eq_getElem (by omega)] at hE
    obtain ⟨z, e1, e2, _⟩ := DataW.trod_string Tryz.underlying9 hE
    have e4 : (xs.map (·.1))[i]? = (wordsL.map fun s => (DataW.lit (.string s.data.toList) : DataW Unit))[i]? := by rw [e3]
    rw [List.getElem?_map, List.getElem?_map, List.getElem?_eq_getElem (by omega : i < xs.length), hx, e2] at e4
    have hz : z = x := by
      simp only [Option.map_some, Option.some.injEq, DataW.lit.injEq, Lit.string.injEq] at e4
      have : z.data = x.data := by rw [← Array.toArray_toList (xs := z.data), e4, Array.toArray_toList]
      cases z; cases x; simp_all
    rw [World.var?_cell hg hv i, ← hz]
    have : cs.toList[i]? = some (.string z) := by
      have h0 : ((cs.toList.drop i).take 1)[0]? = some (.string z) := by rw [e1]; rfl
      simpa using h0
    simpa using this
  refine ⟨?_, hc⟩
  have := World.block_lt_of_cell? W _ (hc 0 ⟨#[]⟩ rfl)
  exact this
theorem gMax : Tryz.prog.globals.size > 2 := of_decide_eq_true (by kernel_rfl)
theorem zMax : ((begin Tryz.prog (fun _ _ => 0) default).world.heap[2]?).bind Obj.row? = some (#[.int .i64 0], 3) := by kernel_rfl
theorem maxl_of_shape {W : World} (h : W.ShapedOpen Tryz.prog) : ∃ m, W.cell? ⟨2, 0, none⟩ = some (.int .i64 m) :=
  Go.Proofs.cell_of_shapedOpen_int (zero := #[.int .i64 0]) (t := 3) h gMax zMax rfl (by kernel_rfl) (by kernel_rfl) Tryz.underlying3
theorem pw_of_laid {W : World} (h : laidMetH Tryz.prog laidP W) (hs : W.ShapedOpen Tryz.prog) : PW W := ⟨words_of_laid h, base_of_laid h, tabs_of_laid h, maxl_of_shape hs⟩
theorem handed_shaped {H : Type} {enc : TypeId × Value → H} {a : Assume} {C : Go.Checked} {os : Os} {f : FuncId} {fn : Func} {s : ChangeSpec} {conds : List PathCond} {apart fresh handsOn again : Bool} {X : World → Array Value → Prop}
    (hX : ∀ (w w' : World) (args : Array Value), w.heap = w'.heap → X w args → X w' args)
    (own : ownKnob C.prog.godebug = none) (started : os.Started) (noInit : C.prog.inits.idxOf? f = none) (hfn : C.prog.funcs[f]? = some fn)
    (witness : ∃ (w : World) (tape : Tape) (i : Input), w.os = os ∧ (w.forCall tape i).Shaped C.prog ∧ i.vars = [] ∧ Input.okWide C.prog (w.forCall tape i) .any w.heap.size f i ∧
      ((s.pre enc C.prog fn conds apart (w.forCall tape i).memory i.args ∧ X (w.forCall tape i).memory i.args) ∧ sizedMet enc C.prog fn (OpenSpec.ofChange s) apart (w.forCall tape i).memory i.args) ∧ a.holds C.prog (lone (Frame.enter C.prog f i.args .normal) [] (w.forCall tape i)))
    (contract : ∀ (W : World) (base : Nat) (args : Array Value) (ds gs : List (DataW H)) (before : List MemPlace),
      (∀ (j : Nat) t v, fn.params[j]? = some t → args[j]? = some v → Value.okWide C.prog W .any base t v) →
      DataW.Whole enc C.prog fn.params.toList s.vars apart W args.toList ds gs before →
      (DataW.weightsEach C.prog (fn.params.toList ++ s.plain.varTypes C.prog) (ds ++ gs)).all (· ≤ reachBytes) = true → X W args → W.ShapedOpen C.prog →
      Calls C.prog f args W fun e W' => ∃ v, e = .returned v ∧ s.post enc C.prog fn apart fresh handsOn again W args v W') :
    ReturnsInHanded a C os f .any (fun w args => (s.pre enc C.prog fn conds apart w args ∧ X w args) ∧ sizedMet enc C.prog fn (OpenSpec.ofChange s) apart w args) (s.post enc C.prog fn apart fresh handsOn again) := by
  refine returnsInHanded_of_calls own started noInit witness ?_
  intro w tape i _ hsh _ hok hpre hholds
  obtain ⟨_, _, _, fn', hfn', _, _, _, _, hval⟩ := hok
  obtain rfl : fn' = fn := Option.some.inj (hfn'.symm.trans hfn)
  obtain ⟨⟨⟨ds, gs, before, hw, hc⟩, hx⟩, hz⟩ := hpre
  have hw' := DataW.Whole.of_heap (w' := w.forCall tape i) (by rfl) hw
  refine (contract (w.forCall tape i) w.heap.size i.args ds gs before hval hw' (hz.weights hw) (hX _ _ _ (by rfl) hx) hsh).mono fun e W' ⟨v, he, hp⟩ => ?_
  subst he
  exact ChangeSpec.post_blind hp
end Go.Proofs.YtpijpeocdlnhiaaGreatDoor
