/- Texts for trimTwice_holds, joined: Runs, RefNext. -/
import Derived.Test.YtgdmdbdljmlkkaaGreatDoorTt19
import Derived.Test.YtgdmdbdljmlkkaaGreatDoorTt17
import Derived.IntWalk
import Derived.Laws.IdiomStrings
import Derived.Laws.BytesArg
import Derived.BigQuiet
import Derived.Test.YtgdmdbdljmlkkaaGreatDoorTt21
import Derived.Test.YtgdmdbdljmlkkaaGreatDoorTt16
set_option linter.unusedVariables false
set_option linter.unusedSimpArgs false
namespace Go.Proofs.YtgdmdbdljmlkkaaGreatDoor
open Go.RowKit
theorem conv_byts (w : World) (ba : Option Addr) (bc : Nat) (l : List UInt8) (h : Reads w (.slice ba l.length bc) l.length 1 (byts l)) (hl : 0 < l.length) :
    (convert 72 9 (.slice ba l.length bc)).run Tryz.prog w = .ok (.string ⟨l.toArray⟩) w := by
  obtain ⟨g, o, c, hv, -, -, hat⟩ := h.at hl
  cases hv
  refine run_convert_bytes_back w _ _ 5 _ bc l Tryz.underlying72 Tryz.underlying5 Tryz.underlying9 (fun j hj => ?_)
  rw [Addr.add_lit]
  exact hat j _ (by unfold byts; rw [List.getElem?_map, List.getElem?_eq_getElem hj]; rfl)
theorem conv_byts0 (w : World) (ba : Option Addr) (bc : Nat) : (convert 72 9 (.slice ba 0 bc)).run Tryz.prog w = .ok (.string ⟨#[]⟩) w := by
  rw [run_convert_bytes_string w 72 9 5 ba 0 bc Tryz.underlying72 Tryz.underlying5 Tryz.underlying9]
  cases ba <;> simp [Conv.bytesToString, loadCells]
  all_goals rfl
theorem conv_all (w : World) (ba : Option Addr) (bc : Nat) (l : List UInt8) (h : Reads w (.slice ba l.length bc) l.length 1 (byts l)) :
    (convert 72 9 (.slice ba l.length bc)).run Tryz.prog w = .ok (.string ⟨l.toArray⟩) w := by
  rcases Nat.eq_zero_or_pos l.length with h0 | h0
  · obtain rfl : l = [] := List.eq_nil_of_length_eq_zero h0
    exact conv_byts0 w ba bc
  · exact conv_byts w ba bc l h h0
structure SL where
  v : Value
  l : List UInt8
structure SLs (w : World) (v : Value) (P : List SL) : Prop where
  rd : Reads w v P.length 1 (P.map SL.v)
  each : ∀ x ∈ P, Reads w x.v x.l.length 1 (byts x.l)
theorem SLs.later {w w' : World} {v : Value} {P : List SL} (h : SLs w v P) (hb : Below w.heap.size w w') : SLs w' v P := ⟨h.rd.later hb, fun x hx => (h.each x hx).later hb⟩
theorem SLs.form {w : World} {v : Value} {P : List SL} (h : SLs w v P) : ∃ a c, v = .slice a P.length c := by
  obtain ⟨-, a, c, hv, -⟩ := h.rd
  exact ⟨a, c, hv⟩
theorem SLs.head {w : World} {a : Option Addr} {c : Nat} {P : List SL} (h : SLs w (.slice a P.length c) P) {m : Nat} (hm : m < P.length) :
    ∃ b o ea ec, a = some ⟨b, o, none⟩ ∧ P.length ≤ c ∧ b < w.heap.size ∧ P[m].v = .slice ea P[m].l.length ec ∧ w.cell? ⟨b, o + m, none⟩ = some (.slice ea P[m].l.length ec) ∧ Reads w (.slice ea P[m].l.length ec) P[m].l.length 1 (byts P[m].l) := by
  obtain ⟨b, o, c', hv, hle, hb, hc⟩ := h.rd.at (by omega)
  cases hv
  have hr := h.each P[m] (List.getElem_mem hm)
  obtain ⟨-, ea, ec, hv2, -⟩ := id hr
  rw [hv2] at hr
  refine ⟨b, o, ea, ec, rfl, hle, hb, hv2, ?_, hr⟩
  rw [← hv2]
  exact hc m _ (by rw [List.getElem?_map, List.getElem?_eq_getElem hm]; rfl)
def slOf (x : RX) : SL := ⟨x.v, x.l⟩
theorem sls_rx {w : World} {v : Value} {X : List RX} {B : Nat} {S : Nat → Prop} (h : Row w 72 1 v X.length (X.map RX.v) S) (h2 : ∀ x ∈ X, RdX B x w) : SLs w v (X.map slOf) := by
  refine ⟨?_, fun x hx => ?_⟩
  · rw [List.length_map, List.map_map]
    exact h.reads
  · obtain ⟨y, hy, rfl⟩ := List.mem_map.1 hx
    exact (h2 y hy).reads
def minL (P : List SL) : Nat := (P.map fun x => min x.l.length 2000).sum
theorem minL_succ {P : List SL} {m : Nat} (h : m < P.length) : minL (P.take (m + 1)) = minL (P.take m) + min P[m].l.length 2000 := by
  unfold minL
  rw [List.take_succ_eq_append_getElem h, List.map_append, List.sum_append]; simp
def sumL (P : List SL) : Nat := (P.map fun x => x.l.length).sum
theorem min_sum : ∀ P : List SL, minL P ≤ 1500 → minL P = sumL P
  | [], _ => rfl
  | x :: P, h => by
    have e1 : minL (x :: P) = min x.l.length 2000 + minL P := by simp [minL]
    have e2 : sumL (x :: P) = x.l.length + sumL P := by simp [sumL]
    have := min_sum P (by omega)
    omega
def FewLP (w : World) (P : List SL) : Ending → World → Prop := fun e w' => (∃ b, e = .returned (.bool b) ∧ (b = true → P.length ≤ 60 ∧ sumL P ≤ 1500)) ∧ w' = w
set_option maxRecDepth 100000 in
set_option maxHeartbeats 2000000 in
theorem rfewL_any (v : Value) (P : List SL) (w : World) (h : SLs w v P) (hl : P.length ≤ 5864062014805) (he : ∀ x ∈ P, x.l.length ≤ 9223372036854775807) :
    Calls Tryz.prog 37 #[v] w (FewLP w P) := by
  obtain ⟨a, c, rfl⟩ := h.form
  have HP := Lib.hid h
  have HE := Lib.hid he
  clear h he
  go_enter Tryz.func37, Tryz.ntmps37
  go_wp2_with fail
  go_loopw [3, 4] (fun s i w' => ∃ (m : Nat) (N : Int), m ≤ P.length ∧ s = .int .i64 N ∧ i = .int .i64 m ∧ w' = w ∧ N = (minL (P.take m) : Nat) ∧ N ≤ 2000 * (m : Int)) (fun _ i _ => P.length - (RowKit.intOf i).toNat)
  case atStart => exact ⟨0, 0, by omega, rfl, rfl, rfl, by simp [minL], by omega⟩
  case round =>
    obtain ⟨m, N, hm, rfl, rfl, rfl, hN1, hN2⟩ := hrel
    by_cases hlt : m < P.length
    · obtain ⟨b, o, ea, ec, rfl, hle, hb, -, hc, -⟩ := HP.out.head hlt
      have hmin := minL_succ hlt
      have hel := HE.out P[m] (List.getElem_mem hlt)
      generalize P[m].l.length = ln at *
      go_wp2_with fail
      go_roundw
      case rel => exact ⟨m + 1, _, by omega, rfl, by go_num, by trivial, by rw [hmin]; omega, by omega⟩
      case measure => simp [RowKit.intOf]; omega
    · obtain rfl : m = P.length := by omega
      rw [List.take_length] at hN1
      have hms := min_sum P
      by_cases h60 : (P.length : Int) ≤ 60
      · by_cases h15 : N ≤ 1500
        · go_wp2
          go_ret
          exact ⟨⟨_, rfl, fun _ => by omega⟩, rfl⟩
        · go_wp2
          go_ret
          exact ⟨⟨_, rfl, fun h => by first | (simp at h; done) | (simp at h; omega)⟩, rfl⟩
      · go_wp2
        go_ret
        exact ⟨⟨_, rfl, fun h => by first | (simp at h; done) | (simp at h; omega)⟩, rfl⟩
set_option maxRecDepth 100000 in
theorem rsame1_any (a1 a2 : Option Addr) (c1 c2 : Nat) (l : List UInt8) (w : World) (h1 : Reads w (.slice a1 l.length c1) l.length 1 (byts l)) (h2 : Reads w (.slice a2 l.length c2) l.length 1 (byts l)) :
    Calls Tryz.prog 65 #[.slice a1 l.length c1, .slice a2 l.length c2] w fun e w' => e = .returned (.bool true) ∧ w' = w := by
  have hc1 := conv_all w a1 c1 l h1
  have hc2 := conv_all w a2 c2 l h2
  clear h1 h2
  go_enter Tryz.func65, Tryz.ntmps65
  go_wp2_with (first | simp only [hc1, hc2] | fail)
  go_ret
  exact ⟨rfl, rfl⟩
set_option maxRecDepth 100000 in
set_option maxHeartbeats 2000000 in
theorem rsameL_any (v1 v2 : Value) (P Q : List SL) (w : World) (h1 : SLs w v1 P) (h2 : SLs w v2 Q) (he : P.map SL.l = Q.map SL.l) (hl : P.length ≤ 1000000000) :
    Calls Tryz.prog 21 #[v1, v2] w fun e w' => e = .returned (.bool true) ∧ Below w.heap.size w w' := by
  obtain ⟨a1, c1, rfl⟩ := h1.form
  obtain ⟨a2, c2, rfl⟩ := h2.form
  have hlen : Q.length = P.length := by have := congrArg List.length he; simpa using this.symm
  have H1 := Lib.hid h1
  have H2 := Lib.hid h2
  have HE := Lib.hid he
  have HLN := Lib.hid hlen
  rw [hlen]
  clear h1 h2 he hlen
  go_enter Tryz.func21, Tryz.ntmps21
  go_wp2_with fail
  go_loopw [5] (fun i w' => ∃ m : Nat, m ≤ P.length ∧ i = .int .i64 m ∧ Hid (Below w.heap.size w w')) (fun i _ => P.length - (RowKit.intOf i).toNat)
  case atStart => exact ⟨0, by omega, rfl, Below.refl _ _⟩
  case round =>
    obtain ⟨m, hm, rfl, HB⟩ := hrel
    by_cases hlt : m < P.length
    · obtain ⟨b, o, ea, ec, rfl, hle, hb, -, hc, hr⟩ := (H1.out.later HB.out).head hlt
      have hlt2 : m < Q.length := by have := HLN.out; omega
      have h2' := H2.out.later HB.out
      have hel : Q[m].l = P[m].l := by
        have := congrArg (fun l => l[m]?) HE.out
        simpa [hlt, hlt2] using this.symm
      obtain ⟨b2, o2, ea2, ec2, rfl, hle2, hb2, -, hc2, hr2⟩ := h2'.head hlt2
      rw [hel] at hc2 hr2
      rw [HLN.out] at hle2
      generalize P[m].l = pl at *
      have HSM := Lib.hid (rsame1_any ea ea2 ec ec2 pl)
      have HR := Lib.hid hr
      have HR2 := Lib.hid hr2
      clear hr hr2 h2' hel
      have HKS : Hid (∀ w', Hid (Below wr.heap.size wr w') → w'.cell? ⟨b, o + m, none⟩ = some (.slice ea pl.length ec) ∧ w'.cell? ⟨b2, o2 + m, none⟩ = some (.slice ea2 pl.length ec2)) := fun w' hb' => ⟨(hb'.out.cell (p := ⟨b, o + m, none⟩) hb).trans hc, (hb'.out.cell (p := ⟨b2, o2 + m, none⟩) hb2).trans hc2⟩
      have HB0 : Hid (Below wr.heap.size wr wr.drew) := (Below.refl _ _).drew
      go_upto_region 6 with fail
      go_region_held3 (fun w' => w'.cell? ⟨b, o + m, none⟩ = some (.slice ea pl.length ec) ∧ w'.cell? ⟨b2, o2 + m, none⟩ = some (.slice ea2 pl.length ec2)) (exact HKS.out _ (by assumption))
        (first | (go_at_call 65; refine (HSM.out _ (HR.out.later (Hid.out (by assumption))) (HR2.out.later (Hid.out (by assumption)))).mono ?_; rintro e w3 ⟨rfl, rfl⟩))
      have HBN := Lib.hid (HB.out.drew)
      go_wp2
      go_roundw
      case rel => exact ⟨m + 1, by omega, by go_num, HBN⟩
      case measure => simp [RowKit.intOf]; omega
    · obtain rfl : m = P.length := by omega
      go_wp2
      go_ret
      exact ⟨rfl, HB.out⟩
def runS (most : Int) (s : Seg) (l : List (List UInt8)) : Seg := l.foldl (fun s r => (stepS most s r).1) s
theorem runS_snoc (most : Int) (s : Seg) (l : List (List UInt8)) (r : List UInt8) : runS most s (l ++ [r]) = (stepS most (runS most s l) r).1 := by unfold runS; rw [List.foldl_append]; rfl
theorem runS_take {P : List SL} {m : Nat} (h : m < P.length) (most : Int) (s : Seg) : runS most s ((P.take (m + 1)).map SL.l) = (stepS most (runS most s ((P.take m).map SL.l)) P[m].l).1 := by
  rw [List.take_succ_eq_append_getElem h, List.map_append]; exact runS_snoc _ _ _ _
theorem stepS_i0 (most : Int) (s : Seg) (r : List UInt8) : (stepS most s r).1.i0 = s.i0 ∧ (stepS most s r).1.pre.length ≤ s.pre.length + 1 := by
  unfold stepS
  split
  · exact ⟨rfl, by show s.pre.length ≤ _; omega⟩
  · split
    · exact ⟨rfl, by show s.pre.length ≤ _; omega⟩
    · split
      · exact ⟨rfl, by simp⟩
      · exact ⟨rfl, by show s.pre.length ≤ _; omega⟩
theorem stepS_len (most : Int) (s : Seg) (r : List UInt8) : (framesB (stepS most s r).1.all).length ≤ (framesB s.all).length + (r.length + 8) := by
  rw [stepS_all, framesB_append, List.length_append]
  split
  · rw [framesB_one, frameB_length]; omega
  · simp [framesB]
structure RunI (most : Int) (s : Seg) (q b : Nat) : Prop where
  good : s.good most
  i0 : s.i0 = 0
  pre : s.pre.length ≤ q
  len : (framesB s.all).length ≤ b + 8 * q
theorem runI_0 (most : Int) : RunI most seg0 0 0 := ⟨seg0_good most, rfl, Nat.le_refl _, by simp [seg0, Seg.all, framesB]⟩
theorem RunI.step {most : Int} {s : Seg} {q b : Nat} (h : RunI most s q b) (hq : q ≤ 300) (r : List UInt8) (hr : r.length ≤ 2000) : RunI most (stepS most s r).1 (q + 1) (b + r.length) := by
  have h1 := stepS_i0 most s r
  have h2 := stepS_len most s r
  have h3 := h.i0
  have h4 := h.pre
  have h5 := h.len
  exact ⟨stepS_good h.good (by omega) r hr, by omega, by omega, by omega⟩
theorem sumL_take {P : List SL} {m : Nat} (h : m < P.length) : sumL (P.take (m + 1)) = sumL (P.take m) + P[m].l.length := by
  unfold sumL
  rw [List.take_succ_eq_append_getElem h, List.map_append, List.sum_append]; simp
theorem sumL_le (P : List SL) (m : Nat) : sumL (P.take m) ≤ sumL P := by
  conv => rhs; rw [← List.take_append_drop m P]
  unfold sumL
  rw [List.map_append, List.sum_append]; omega
theorem sumL_at {P : List SL} {m : Nat} (h : m < P.length) : P[m].l.length ≤ sumL P := by
  have h1 := sumL_take h
  have h2 := sumL_le P (m + 1)
  omega
theorem runI_take (most : Int) (P : List SL) (hP : P.length ≤ 300) (hs : sumL P ≤ 2000) : ∀ m, m ≤ P.length → RunI most (runS most seg0 ((P.take m).map SL.l)) m (sumL (P.take m))
  | 0, _ => by
    have := runI_0 most
    simpa [runS, sumL] using this
  | m + 1, hm => by
    have ih := runI_take most P hP hs m (by omega)
    have hlt : m < P.length := by omega
    rw [runS_take hlt, sumL_take hlt]
    exact ih.step (by omega) _ (by have := sumL_at hlt; omega)
theorem readD_up {D : DS} (h : D.down = false) (n : ByteArray) : (readD D n).1 = match findD D.files n with
    | some f => f.b
    | none => [] := by
  unfold readD
  rw [if_neg (by rw [h]; simp)]
  cases findD D.files n <;> rfl
theorem rel_names_mem {D F : DS} (h : Rel D F) (x : ByteArray) : x ∈ D.files.map DF.name ↔ x ∈ F.files.map DF.name := by
  have h1 := findD_none (l := D.files) (n := x)
  have h2 := findD_none (l := F.files) (n := x)
  rw [h.same] at h1
  rw [← Classical.not_not (a := x ∈ D.files.map DF.name), ← Classical.not_not (a := x ∈ F.files.map DF.name)]
  exact not_congr (h1.symm.trans h2)
theorem RunI.synced {most : Int} {s : Seg} {q b : Nat} (h : RunI most s q b) : RunI most { s with wt := 0 } q b :=
  ⟨⟨h.good.num, Nat.zero_le _, h.good.lens, h.good.fit⟩, h.i0, h.pre, h.len⟩
set_option maxRecDepth 100000 in
set_option maxHeartbeats 800000 in
theorem ropen_any (ba : Option Addr) (bc : Nat) (l : List UInt8) (w : World) (h : Reads w (.slice ba l.length bc) l.length 1 (byts l)) (hl : l.length ≤ 100000) :
    Calls Tryz.prog 164 #[.slice ba l.length bc] w fun e w' => (match openB l with
      | none => e = .returned (.tuple #[.slice none 0 0, .bool false])
      | some x => e = .returned (.tuple #[.slice ba x.length bc, .bool true])) ∧ Below w.heap.size w w' := by
  have HR := Lib.hid h
  have hcap : l.length ≤ bc := by obtain ⟨_, ao, c, hv, hle, _⟩ := h; cases hv; exact hle
  clear h
  obtain ⟨Q, hQ⟩ : ∃ Q : Ending → World → Prop, Q = fun e w' => (match openB l with
      | none => e = .returned (.tuple #[.slice none 0 0, .bool false])
      | some x => e = .returned (.tuple #[.slice ba x.length bc, .bool true])) ∧ Below w.heap.size w w' := ⟨_, rfl⟩
  have HQD := Lib.hid hQ
  rw [← hQ]
  clear hQ
  by_cases h4 : l.length < 4
  · have HO : Hid (openB l = none) := by unfold openB; rw [Hid, if_neg (by omega)]
    have HQ : Hid (∀ k, Q (.returned (.tuple #[.slice none 0 0, .bool false])) (w.drewN k)) := by
      intro k
      rw [HQD.out, HO.out]; exact ⟨rfl, rfl, rfl, rfl, Nat.le_refl _, fun _ _ => rfl⟩
    have hd : decide ((l.length : Int) - 4 < 0) = true := by simp; omega
    go_enter Tryz.func164, Tryz.ntmps164
    go_upto_region 2 with fail
    go_quiet (fail)
    go_wp2
    exact HQ.out _
  · obtain ⟨n, hn⟩ : ∃ n, n + 4 = l.length := ⟨l.length - 4, by omega⟩
    have HN := Lib.hid hn
    have hd : decide ((n : Int) < 0) = false := by simp
    have HT := Lib.hid (HR.out.takeB n (by omega))
    have htl : (l.take n).length = n := by rw [List.length_take]; omega
    have HTL := Lib.hid htl
    have HSU : Hid (∀ w', Below w.heap.size w w' → Calls Tryz.prog 172 #[.slice ba n bc] w' fun e w'' => e = .returned (.int .u32 (crcB (l.take n)).toNat) ∧ w'' = w') := by
      intro w' hb
      have := rsum_any ba bc (l.take n) w' (HT.out.later hb) (by omega)
      rwa [htl] at this
    obtain ⟨g, o, c, hv, -, -, hat⟩ := HR.out.at (by omega)
    cases hv
    have HS : Hid (∀ w', Below w.heap.size w w' → Reads w' (.slice (some ⟨g, o + n, none⟩) 4 (bc - n)) 4 1 (byts (l.drop n))) := by
      intro w' hb
      have := (HR.out.later hb).drop n (by omega) (some ⟨g, o + n, none⟩) (fun _ => rfl) (by simp)
      have e4 : l.length - n = 4 := by omega
      rw [e4] at this
      unfold byts at this ⊢
      rwa [List.map_drop]
    have HL4 : Hid ((l.drop n).length = 4) := by rw [Hid, List.length_drop]; omega
    have HOB : Hid (openB l = if le4 (crcB (l.take n)) = l.drop n then some (l.take n) else none) := by
      have e : l.length - 4 = n := by omega
      unfold openB sealB
      rw [Hid, e]
      have hsplit : l = l.take n ++ l.drop n := (List.take_append_drop n l).symm
      by_cases h : le4 (crcB (l.take n)) = l.drop n
      · rw [if_pos h, if_pos ⟨by omega, by rw [h]; exact hsplit.symm⟩]
      · rw [if_neg h, if_neg (fun x => h (List.append_cancel_left (x.2.trans hsplit)))]
    have HLI := Lib.hid (fun w' => rlittle_any (crcB (l.take n)) w')
    have hcv : ∀ w', Below w.heap.size w w' → (convert 72 9 (.slice (some ⟨g, o + n, none⟩) 4 (bc - n))).run Tryz.prog w' = .ok (.string ⟨(l.drop n).toArray⟩) w' := by
      intro w' hb
      have h1 := HS.out w' hb
      have h2 := HL4.out
      have := conv_all w' (some ⟨g, o + n, none⟩) (bc - n) (l.drop n) (by rw [h2]; exact h1)
      rwa [h2] at this
    have HQN : Hid (∀ w', Below w.heap.size w w' → Q (.returned (if le4 (crcB (l.take n)) = l.drop n then .tuple #[.slice (some ⟨g, o, none⟩) n bc, .bool true] else .tuple #[.slice none 0 0, .bool false])) w') := by
      intro w' hb
      rw [HQD.out, HOB.out]
      by_cases h : le4 (crcB (l.take n)) = l.drop n
      · rw [if_pos h, if_pos h]; exact ⟨by simp only [HTL.out], hb⟩
      · rw [if_neg h, if_neg h]; exact ⟨rfl, hb⟩
    have hnb : n + 4 ≤ bc := by omega
    clear hat htl
    obtain ⟨ln, hln⟩ : ∃ ln, ln = l.length := ⟨_, rfl⟩
    rw [← hln] at hn hl hcap ⊢
    clear HR HN h4 HOB HT HTL hln
    subst hn
    generalize crcB (l.take n) = X at *
    generalize l.drop n = ld at *
    have hi0 : (0 : Int) ≤ (n : Int) := by omega
    have hi1 : (n : Int) ≤ (bc : Int) := by omega
    have hi2 : (n : Int) ≤ (n : Int) + 4 := by omega
    have hi3 : (n : Int) + 4 ≤ (bc : Int) := by omega
    go_enter Tryz.func164, Tryz.ntmps164
    go_upto_region 2 with fail
    have hb0 : Below w.heap.size w w.drew := ⟨rfl, rfl, rfl, Nat.le_refl _, fun _ _ => rfl⟩
    have HB0 := Lib.hid hb0
    have hcvd := hcv _ hb0
    have HCV := Lib.hid hcv
    clear hcv hb0 hcvd
    have hbn : ¬ bc = n := by omega
    refine wp_region_held_drew (S := fun w' => (convert 72 9 (.slice (some ⟨g, o + n, none⟩) 4 (bc - n))).run Tryz.prog w' = .ok (.string ⟨ld.toArray⟩) w') (by kernel_rfl) (HCV.out _ HB0.out) (fun hHeld => ?_)
    refine wpAnyH_take (i := 0) (oi := ⟨_, _, _, _, _, _⟩) (v := ?_) rfl (by kernel_rfl) (by kernel_rfl) (by kernel_rfl) (fun _ _ _ h => h) (Or.inl ⟨by rfl, ?hy⟩) (by assumption) ?rest
    case hy => (intro w hSw; (try dsimp only at hSw); go_simp; all_goals (with_reducible rfl))
    case rest =>
    try simp only [Act.put, List.setIfInBounds_toArray, List.set_cons_zero, List.set_cons_succ]
    refine wpAnyH_take (i := 1) (oi := ⟨_, _, _, _, _, _⟩) (v := ?_) rfl (by kernel_rfl) (by kernel_rfl) (by kernel_rfl) (fun _ _ _ h => h) (Or.inl ⟨by rfl, ?hy⟩) (by assumption) ?rest
    case hy => (intro w hSw; (try dsimp only at hSw); go_simp; all_goals (with_reducible rfl))
    case rest =>
    try simp only [Act.put, List.setIfInBounds_toArray, List.set_cons_zero, List.set_cons_succ]
    refine wpAnyH_take (i := 2) (oi := ⟨_, _, _, _, _, _⟩) (v := ?_) rfl (by kernel_rfl) (by kernel_rfl) (by kernel_rfl) (fun _ _ _ h => h) (Or.inl ⟨by rfl, ?hy⟩) (by assumption) ?rest
    case hy => (intro w hSw; (try dsimp only at hSw); go_simp; all_goals (with_reducible rfl))
    case rest =>
    try simp only [Act.put, List.setIfInBounds_toArray, List.set_cons_zero, List.set_cons_succ]
    refine wpAnyH_take (i := 3) (oi := ⟨_, _, _, _, _, _⟩) (v := ?_) rfl (by kernel_rfl) (by kernel_rfl) (by kernel_rfl) (fun _ _ _ h => h) (Or.inl ⟨by rfl, ?hy⟩) (by assumption) ?rest
    case hy => (intro w hSw; (try dsimp only at hSw); go_simp; all_goals (with_reducible rfl))
    case rest =>
    try simp only [Act.put, List.setIfInBounds_toArray, List.set_cons_zero, List.set_cons_succ]
    refine wpAnyH_take (i := 4) (oi := ⟨_, _, _, _, _, _⟩) (v := ?_) rfl (by kernel_rfl) (by kernel_rfl) (by kernel_rfl) (fun _ _ _ h => h) (Or.inl ⟨by rfl, ?hy⟩) (by assumption) ?rest
    case hy => (intro w hSw; (try dsimp only at hSw); go_simp; all_goals (with_reducible rfl))
    case rest =>
    try simp only [Act.put, List.setIfInBounds_toArray, List.set_cons_zero, List.set_cons_succ]
    refine wpAnyH_take (i := 5) (oi := ⟨_, _, _, _, _, _⟩) (v := ?_) rfl (by kernel_rfl) (by kernel_rfl) (by kernel_rfl) (fun _ _ _ h => h) (Or.inl ⟨by rfl, ?hy⟩) (by assumption) ?rest
    case hy => (intro w hSw; (try dsimp only at hSw); go_simp; all_goals (with_reducible rfl))
    case rest =>
    try simp only [Act.put, List.setIfInBounds_toArray, List.set_cons_zero, List.set_cons_succ]
    refine wpAnyH_take (i := 9) (oi := ⟨_, _, _, _, _, _⟩) (v := ?_) rfl (by kernel_rfl) (by kernel_rfl) (by kernel_rfl) (fun _ _ _ h => h) (Or.inl ⟨by rfl, ?hy⟩) (by assumption) ?rest
    case hy => (intro w hSw; (try dsimp only at hSw); go_simp; all_goals (with_reducible rfl))
    case rest =>
    try simp only [Act.put, List.setIfInBounds_toArray, List.set_cons_zero, List.set_cons_succ]
    refine wpAnyH_take (i := 10) (oi := ⟨_, _, _, _, _, _⟩) (v := ?_) rfl (by kernel_rfl) (by kernel_rfl) (by kernel_rfl) (fun _ _ _ h => h) (Or.inl ⟨by rfl, ?hy⟩) (by assumption) ?rest
    case hy => (intro w hSw; (try dsimp only at hSw); go_simp; all_goals (with_reducible rfl))
    case rest =>
    try simp only [Act.put, List.setIfInBounds_toArray, List.set_cons_zero, List.set_cons_succ]
    refine wpAnyH_take (i := 11) (oi := ⟨_, _, _, _, _, _⟩) (v := ?_) rfl (by kernel_rfl) (by kernel_rfl) (by kernel_rfl) (fun _ _ _ h => h) (Or.inl ⟨by rfl, ?hy⟩) (by assumption) ?rest
    case hy => (intro w hSw; (try dsimp only at hSw); go_simp; all_goals (with_reducible rfl))
    case rest =>
    try simp only [Act.put, List.setIfInBounds_toArray, List.set_cons_zero, List.set_cons_succ]
    refine wpAnyH_take (i := 12) (oi := ⟨_, _, _, _, _, _⟩) (v := ?_) rfl (by kernel_rfl) (by kernel_rfl) (by kernel_rfl) (fun _ _ _ h => h) (Or.inl ⟨by rfl, ?hy⟩) (by assumption) ?rest
    case hy => (intro w hSw; (try dsimp only at hSw); go_simp; all_goals (with_reducible rfl))
    case rest =>
    try simp only [Act.put, List.setIfInBounds_toArray, List.set_cons_zero, List.set_cons_succ]
    refine wpAnyH_ready (rs := [6]) (by kernel_rfl) (by simp) (AllReadyH.cons (o := ⟨_, _, _, _, _, _⟩) rfl (fun K hK => ?_) AllReadyH.nil)
    go_simp
    go_at_call 172
    refine (HSU.out _ HB0.out).mono ?_
    rintro e w2 ⟨rfl, rfl⟩
    refine hK.out _ _ (HCV.out _ HB0.out) (fun hHeld => ?_)
    clear hK K
    try simp only [Act.put, List.setIfInBounds_toArray, List.set_cons_zero, List.set_cons_succ]
    refine wpAnyH_ready (rs := [7]) (by kernel_rfl) (by simp) (AllReadyH.cons (o := ⟨_, _, _, _, _, _⟩) rfl (fun K hK => ?_) AllReadyH.nil)
    go_simp
    go_at_call 137
    refine (HLI.out _).mono ?_
    rintro e w2 ⟨rfl, hrow, hb⟩
    have HB2 := Lib.hid (HB0.out.trans (hb.mono HB0.out.size))
    have hcw := conv_all _ _ _ (le4 X) (by rw [le4_length]; exact hrow.reads)
    rw [le4_length] at hcw
    have hcw2 : (convert 72 9 (.slice (some ⟨w.heap.size, 0, none⟩) 4 4)).run Tryz.prog w2 = .ok (.string ⟨(le4 X).toArray⟩) w2 := hcw
    clear hrow hb hcw
    refine hK.out _ _ (HCV.out _ HB2.out) (fun hHeld => ?_)
    clear hK K
    try simp only [Act.put, List.setIfInBounds_toArray, List.set_cons_zero, List.set_cons_succ]
    refine wpAnyH_ready (rs := [8]) (by kernel_rfl) (by simp) (AllReadyH.cons (o := ⟨_, _, _, _, _, _⟩) rfl (fun K hK => ?_) AllReadyH.nil)
    go_simp
    refine hK.out _ _ (HCV.out _ HB2.out) (fun hHeld => ?_)
    clear hK K
    try simp only [Act.put, List.setIfInBounds_toArray, List.set_cons_zero, List.set_cons_succ]
    refine wpAnyH_take (i := 13) (oi := ⟨_, _, _, _, _, _⟩) (v := ?_) rfl (by kernel_rfl) (by kernel_rfl) (by kernel_rfl) (fun _ _ _ h => h) (Or.inl ⟨by rfl, ?hy⟩) (by assumption) ?rest
    case hy => (intro w hSw; (try dsimp only at hSw); go_simp; all_goals (with_reducible rfl))
    case rest =>
    try simp only [Act.put, List.setIfInBounds_toArray, List.set_cons_zero, List.set_cons_succ]
    refine wpAnyH_take (i := 14) (oi := ⟨_, _, _, _, _, _⟩) (v := ?_) rfl (by kernel_rfl) (by kernel_rfl) (by kernel_rfl) (fun _ _ _ h => h) (Or.inl ⟨by rfl, ?hy⟩) (by assumption) ?rest
    case hy => (intro w hSw; (try dsimp only at hSw); go_simp; all_goals (with_reducible rfl))
    case rest =>
    try simp only [Act.put, List.setIfInBounds_toArray, List.set_cons_zero, List.set_cons_succ]
    refine wpAnyH_done (by kernel_rfl) ?_ _
    by_cases heq : le4 X = ld
    · have hne : (le4 X == ld) = true := by simpa using heq
      have HQ2 := Lib.hid (HQN.out w2 HB2.out)
      rw [if_pos heq] at HQ2
      rw [hne]
      clear heq hne HQN HQD
      go_wp2
      exact HQ2.out
    · have hne : (le4 X == ld) = false := by simpa using heq
      have HQ2 := Lib.hid (HQN.out w2 HB2.out)
      rw [if_neg heq] at HQ2
      rw [hne]
      clear heq hne HQN HQD
      go_wp2
      exact HQ2.out
def NextR (ba : Option Addr) (bc : Nat) (l : List UInt8) (w : World) (r : Option (List UInt8 × Nat)) : Ending → World → Prop := fun e w' => ∃ xv nv, e = .returned (.tuple #[xv, nv]) ∧ (match r with
  | none => xv = .slice none 0 0 ∧ nv = .int .i64 0
  | some (x, n) => (∃ a c, xv = .slice a x.length c) ∧ nv = .int .i64 n ∧ ∀ W, Reads W (.slice ba l.length bc) l.length 1 (byts l) → Reads W xv x.length 1 (byts x)) ∧ Below w.heap.size w w'
set_option maxRecDepth 100000 in
set_option maxHeartbeats 1000000 in
theorem rnext_any (ba : Option Addr) (bc : Nat) (l : List UInt8) (w : World) (h : Reads w (.slice ba l.length bc) l.length 1 (byts l)) (hl : l.length ≤ 100000) :
    Calls Tryz.prog 125 #[.slice ba l.length bc] w (NextR ba bc l w (nextB l)) := by
  have HR := Lib.hid h
  have hcap : l.length ≤ bc := by obtain ⟨_, ao, c, hv, hle, _⟩ := h; cases hv; exact hle
  clear h
  obtain ⟨Q, hQ⟩ : ∃ Q, Q = NextR ba bc l w (nextB l) := ⟨_, rfl⟩
  have HQD := Lib.hid hQ
  rw [← hQ]
  clear hQ
  by_cases h8 : l.length < 8
  · have HQ : Hid (Q (.returned (.tuple #[.slice none 0 0, .int .i64 0])) w) := by
      rw [HQD.out, Hid]; unfold nextB; rw [if_pos h8]; exact ⟨_, _, rfl, ⟨rfl, rfl⟩, Below.refl _ _⟩
    go_enter Tryz.func125, Tryz.ntmps125
    go_wp2
    exact HQ.out
  · obtain ⟨c0, c1, c2, c3, r, hlr⟩ : ∃ c0 c1 c2 c3 r, l = c0 :: c1 :: c2 :: c3 :: r := by
      match l, h8 with
      | c0 :: c1 :: c2 :: c3 :: r, _ => exact ⟨c0, c1, c2, c3, r, rfl⟩
      | [], h => simp at h
      | [_], h => simp at h
      | [_, _], h => simp at h
      | [_, _, _], h => simp at h
    have hnum : ((c0.toNat : Int) + (c1.toNat : Int) * 256 + (c2.toNat : Int) * 65536 + (c3.toNat : Int) * 16777216) = (num4 l : Int) := by
      rw [hlr]; unfold num4; simp only [List.getD_cons_zero, List.getD_cons_succ]; omega
    have HNUM := Lib.hid hnum
    obtain ⟨g, o, c, hv, hnc, hg, hat⟩ := HR.out.at (by omega)
    obtain ⟨rfl, rfl⟩ : ba = some ⟨g, o, none⟩ ∧ bc = c := by cases hv; exact ⟨rfl, rfl⟩
    clear hv
    have HNB : Hid (nextB l = if 1048576 < num4 l ∨ l.length < num4 l + 8 then none else match openB (l.take (num4 l + 8)) with
      | none => none
      | some x => some (x.drop 4, num4 l + 8)) := by rw [Hid]; unfold nextB; rw [if_neg h8]; rfl
    have HC : Hid (w.cell? ⟨g, o, none⟩ = some (.int .u8 c0.toNat) ∧ w.cell? ⟨g, o + 1, none⟩ = some (.int .u8 c1.toNat) ∧ w.cell? ⟨g, o + 2, none⟩ = some (.int .u8 c2.toNat) ∧ w.cell? ⟨g, o + 3, none⟩ = some (.int .u8 c3.toNat)) := by
      refine ⟨hat 0 _ ?_, hat 1 _ ?_, hat 2 _ ?_, hat 3 _ ?_⟩ <;> rw [hlr] <;> simp [byts, u8v]
    have hn4 : num4 l ≤ 4294967296 := by have := c0.toNat_lt; have := c1.toNat_lt; have := c2.toNat_lt; have := c3.toNat_lt; omega
    have hp0 := c0.toNat_lt
    have hp1 := c1.toNat_lt
    have hp2 := c2.toNat_lt
    have hp3 := c3.toNat_lt
    generalize c0.toNat = d0 at *
    generalize c1.toNat = d1 at *
    generalize c2.toNat = d2 at *
    generalize c3.toNat = d3 at *
    obtain ⟨n, hn⟩ : ∃ n, n = num4 l := ⟨_, rfl⟩
    rw [← hn] at HNUM HNB hn4
    have HOP : Hid (n + 8 ≤ l.length → ∀ w', Below w.heap.size w w' → Calls Tryz.prog 164 #[.slice (some ⟨g, o, none⟩) (n + 8) bc] w' fun e w'' => (match openB (l.take (n + 8)) with
      | none => e = .returned (.tuple #[.slice none 0 0, .bool false])
      | some x => e = .returned (.tuple #[.slice (some ⟨g, o, none⟩) x.length bc, .bool true])) ∧ Below w'.heap.size w' w'') := by
      intro hle w' hb
      have hT := (HR.out.later hb).takeB (n + 8) hle
      have he : (l.take (n + 8)).length = n + 8 := by rw [List.length_take]; omega
      have := ropen_any (some ⟨g, o, none⟩) bc (l.take (n + 8)) w' hT (by omega)
      rwa [he] at this
    have HOL : Hid (n + 8 ≤ l.length → ∀ x, openB (l.take (n + 8)) = some x → x.length = n + 4 ∧ x.drop 4 = (l.drop 4).take n) := by
      intro hle x hx
      have he : (l.take (n + 8)).length = n + 8 := by rw [List.length_take]; omega
      unfold openB at hx
      split at hx
      · cases hx
        refine ⟨by rw [List.length_take, he]; omega, ?_⟩
        rw [he, List.take_take, List.drop_take]
        congr 1; omega
      · cases hx
    have HRD : Hid (∀ ao, ao ≠ none → (¬ bc = 4 → ao = some (⟨g, o + 4, none⟩ : Addr)) → n + 8 ≤ l.length → ∀ W, Reads W (.slice (some ⟨g, o, none⟩) l.length bc) l.length 1 (byts l) → Reads W (.slice ao n (bc - 4)) n 1 (byts ((l.drop 4).take n))) := by
      intro ao h1 h2 hle W hW
      have hd := hW.drop 4 (by omega) ao h2 h1
      have he : (byts l).drop 4 = byts (l.drop 4) := by unfold byts; rw [List.map_drop]
      rw [he] at hd
      have el : (l.drop 4).length = l.length - 4 := List.length_drop
      rw [← el] at hd
      have := Reads.takeB hd n (by omega)
      have hlen : ((l.drop 4).take n).length = n := by rw [List.length_take, el]; omega
      rwa [hlen] at this
    obtain ⟨ln, hln⟩ : ∃ ln, ln = l.length := ⟨_, rfl⟩
    have HLN := Lib.hid hln
    rw [← hln] at hl hcap h8 HNB HOP HOL hnc ⊢
    clear HR hat hn hln hnum hlr
    obtain ⟨hc0, hc1, hc2, hc3⟩ := HC.out
    go_enter Tryz.func125, Tryz.ntmps125
    go_upto_region 3 with fail
    go_quiet (fail)
    rw [HNUM.out]
    have HBD := Lib.hid (show Below w.heap.size w (w.drewN nq) from ⟨rfl, rfl, rfl, Nat.le_refl _, fun _ _ => rfl⟩)
    generalize w.drewN nq = wd at *
    clear hc0 hc1 hc2 hc3 HC HNUM hp0 hp1 hp2 hp3
    have HNIL : Hid (nextB l = none → ∀ w', Below w.heap.size w w' → Q (.returned (.tuple #[.slice none 0 0, .int .i64 0])) w') := by
      intro hq w' hb
      rw [HQD.out, hq]; exact ⟨_, _, rfl, ⟨rfl, rfl⟩, hb⟩
    by_cases hbig : 1048576 < n
    · have HQ1 := Lib.hid (HNIL.out (by rw [HNB.out, if_pos (.inl hbig)]) wd HBD.out)
      go_wp2
      exact HQ1.out
    by_cases hsh : ln < n + 8
    · have HQ1 := Lib.hid (HNIL.out (by rw [HNB.out, if_pos (.inr hsh)]) wd HBD.out)
      have hs : (ln : Int) - 8 < (n : Int) := by omega
      go_wp2
      exact HQ1.out
    have HLE : Hid (n + 8 ≤ ln) := by show n + 8 ≤ ln; omega
    have hs : (n : Int) ≤ (ln : Int) - 8 := by omega
    have hi1 : (n : Int) + 8 ≤ (bc : Int) := by omega
    have HOP1 := Lib.hid (HOP.out HLE.out wd HBD.out)
    have HOL1 := Lib.hid (HOL.out HLE.out)
    have HNB1 : Hid (nextB l = match openB (l.take (n + 8)) with
      | none => none
      | some x => some (x.drop 4, n + 8)) := by rw [Hid, HNB.out, if_neg (by omega)]
    have hb4 : ¬ bc = 4 := by omega
    have HRD1 := Lib.hid (HRD.out (some ⟨g, o + 4, none⟩) (by simp) (fun _ => rfl) (by rw [← HLN.out]; exact HLE.out))
    clear HOP HOL HNB HRD
    cases hop : openB (l.take (n + 8)) with
    | none =>
      rw [hop] at HOP1 HNB1
      clear hop HOL1
      go_wp2_with fail
      refine HOP1.out.mono ?_
      rintro e w2 ⟨rfl, hb2⟩
      have HQ1 := Lib.hid (HNIL.out HNB1.out w2 (HBD.out.trans (hb2.mono HBD.out.size)))
      clear hb2 HOP1 HNIL
      go_wp2
      exact HQ1.out
    | some x =>
      obtain ⟨hx1, hx2⟩ := HOL1.out x hop
      rw [hop] at HOP1 HNB1
      have HX2 := Lib.hid hx2
      clear hop HOL1 HNIL hx2
      go_wp2_with fail
      refine HOP1.out.mono ?_
      rintro e w2 ⟨rfl, hb2⟩
      have HQ1 : Hid (Q (.returned (.tuple #[.slice (some ⟨g, o + 4, none⟩) n (bc - 4), .int .i64 ((n : Int) + 8)])) w2) := by
        rw [HQD.out, HNB1.out]
        have e1 : (x.drop 4).length = n := by rw [List.length_drop, hx1]; omega
        refine ⟨_, _, rfl, ⟨⟨some ⟨g, o + 4, none⟩, bc - 4, by rw [e1]⟩, by simp, fun W hW => ?_⟩, HBD.out.trans (hb2.mono HBD.out.size)⟩
        rw [e1, HX2.out]; exact HRD1.out W hW
      rw [hx1]
      clear hb2 HOP1 HQD HNB1 HRD1 HX2
      go_wp2_with fail
      exact HQ1.out
end Go.Proofs.YtgdmdbdljmlkkaaGreatDoor
