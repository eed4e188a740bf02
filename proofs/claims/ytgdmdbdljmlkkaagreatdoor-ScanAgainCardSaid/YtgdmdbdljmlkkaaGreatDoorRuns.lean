/- Lists of bytes: Few and Same of the reference.
Runs of Put, what their disk's records are, also behind a crash; no program in sight.
Runs of Put with a Sync between them; the log's Sync. -/
import Derived.Test.YtgdmdbdljmlkkaaGreatDoorRefMake
import Derived.Test.YtgdmdbdljmlkkaaGreatDoorSplit
import Derived.IntWalk
import Derived.Laws.IdiomStrings
import Derived.Laws.BytesArg
import Derived.BigQuiet
import Derived.Test.YtgdmdbdljmlkkaaGreatDoorRecs
import Derived.Test.YtgdmdbdljmlkkaaGreatDoorLive8
namespace Go.Proofs.YtgdmdbdljmlkkaaGreatDoor
set_option linter.unusedVariables false
set_option linter.unusedSimpArgs false
open Go.RowKit

theorem conv_byts (w : World) (ba : Option Addr) (bc : Nat) (l : List UInt8) (h : Reads w (.slice ba l.length bc) l.length 1 (byts l)) (hl : 0 < l.length) :
    (convert 72 9 (.slice ba l.length bc)).run Tryz.prog w = .ok (.string ⟨l.toArray⟩) w := by
  obtain ⟨g, o, c, hv, -, -, hat⟩ := h.at hl
  cases hv
  refine run_convert_bytes_back w _ _ 5 _ bc l Tryz.underlying72 Tryz.underlying5 Tryz.underlying9 (fun j hj => ?_)
  rw [Addr.add_lit]
  exact hat j _ (by unfold byts; rw [List.getElem?_map, List.getElem?_eq_getElem hj]; rfl)

theorem conv_byts0 (w : World) (ba : Option Addr) (bc : Nat) : (convert 72 9 (.slice ba 0 bc)).run Tryz.prog w = .ok (.string ⟨#[]⟩) w := by
  rw [run_convert_bytes_string w 72 9 5 ba 0 bc Tryz.underlying72 Tryz.underlying5 Tryz.underlying9]
  cases ba <;> simp [Conv.bytesToString, loadCells]
  all_goals rfl
theorem conv_all (w : World) (ba : Option Addr) (bc : Nat) (l : List UInt8) (h : Reads w (.slice ba l.length bc) l.length 1 (byts l)) :
    (convert 72 9 (.slice ba l.length bc)).run Tryz.prog w = .ok (.string ⟨l.toArray⟩) w := by
  rcases Nat.eq_zero_or_pos l.length with h0 | h0
  · obtain rfl : l = [] := List.eq_nil_of_length_eq_zero h0
    exact conv_byts0 w ba bc
  · exact conv_byts w ba bc l h h0

/-- A list of bytes with its slice. -/
structure SL where
  v : Value
  l : List UInt8
/-- Lists of bytes that can be read. -/
structure SLs (w : World) (v : Value) (P : List SL) : Prop where
  rd : Reads w v P.length 1 (P.map SL.v)
  each : ∀ x ∈ P, Reads w x.v x.l.length 1 (byts x.l)
theorem SLs.later {w w' : World} {v : Value} {P : List SL} (h : SLs w v P) (hb : Below w.heap.size w w') : SLs w' v P := ⟨h.rd.later hb, fun x hx => (h.each x hx).later hb⟩
theorem SLs.form {w : World} {v : Value} {P : List SL} (h : SLs w v P) : ∃ a c, v = .slice a P.length c := by
  obtain ⟨-, a, c, hv, -⟩ := h.rd
  exact ⟨a, c, hv⟩
theorem SLs.head {w : World} {a : Option Addr} {c : Nat} {P : List SL} (h : SLs w (.slice a P.length c) P) {m : Nat} (hm : m < P.length) :
    ∃ b o ea ec, a = some ⟨b, o, none⟩ ∧ P.length ≤ c ∧ b < w.heap.size ∧ P[m].v = .slice ea P[m].l.length ec ∧ w.cell? ⟨b, o + m, none⟩ = some (.slice ea P[m].l.length ec) ∧ Reads w (.slice ea P[m].l.length ec) P[m].l.length 1 (byts P[m].l) := by
  obtain ⟨b, o, c', hv, hle, hb, hc⟩ := h.rd.at (by omega)
  cases hv
  have hr := h.each P[m] (List.getElem_mem hm)
  obtain ⟨-, ea, ec, hv2, -⟩ := id hr
  rw [hv2] at hr
  refine ⟨b, o, ea, ec, rfl, hle, hb, hv2, ?_, hr⟩
  rw [← hv2]
  exact hc m _ (by rw [List.getElem?_map, List.getElem?_eq_getElem hm]; rfl)
def slOf (x : RX) : SL := ⟨x.v, x.l⟩
theorem sls_rx {w : World} {v : Value} {X : List RX} {B : Nat} {S : Nat → Prop} (h : Row w 72 1 v X.length (X.map RX.v) S) (h2 : ∀ x ∈ X, RdX B x w) : SLs w v (X.map slOf) := by
  refine ⟨?_, fun x hx => ?_⟩
  · rw [List.length_map, List.map_map]
    exact h.reads
  · obtain ⟨y, hy, rfl⟩ := List.mem_map.1 hx
    exact (h2 y hy).reads

def minL (P : List SL) : Nat := (P.map fun x => min x.l.length 2000).sum
theorem minL_succ {P : List SL} {m : Nat} (h : m < P.length) : minL (P.take (m + 1)) = minL (P.take m) + min P[m].l.length 2000 := by
  unfold minL
  rw [List.take_succ_eq_append_getElem h, List.map_append, List.sum_append]; simp
def sumL (P : List SL) : Nat := (P.map fun x => x.l.length).sum
theorem min_sum : ∀ P : List SL, minL P ≤ 1500 → minL P = sumL P
  | [], _ => rfl
  | x :: P, h => by
    have e1 : minL (x :: P) = min x.l.length 2000 + minL P := by simp [minL]
    have e2 : sumL (x :: P) = x.l.length + sumL P := by simp [sumL]
    have := min_sum P (by omega)
    omega

def FewLP (w : World) (P : List SL) : Ending → World → Prop := fun e w' => (∃ b, e = .returned (.bool b) ∧ (b = true → P.length ≤ 60 ∧ sumL P ≤ 1500)) ∧ w' = w
set_option maxRecDepth 100000 in
set_option maxHeartbeats 2000000 in
theorem rfewL_any (v : Value) (P : List SL) (w : World) (h : SLs w v P) (hl : P.length ≤ 5864062014805) (he : ∀ x ∈ P, x.l.length ≤ 9223372036854775807) :
    Calls Tryz.prog 37 #[v] w (FewLP w P) := by
  obtain ⟨a, c, rfl⟩ := h.form
  have HP := Lib.hid h
  have HE := Lib.hid he
  clear h he
  go_enter Tryz.func37, Tryz.ntmps37
  go_wp2_with fail
  go_loopw [3, 4] (fun s i w' => ∃ (m : Nat) (N : Int), m ≤ P.length ∧ s = .int .i64 N ∧ i = .int .i64 m ∧ w' = w ∧ N = (minL (P.take m) : Nat) ∧ N ≤ 2000 * (m : Int)) (fun _ i _ => P.length - (RowKit.intOf i).toNat)
  case atStart => exact ⟨0, 0, by omega, rfl, rfl, rfl, by simp [minL], by omega⟩
  case round =>
    obtain ⟨m, N, hm, rfl, rfl, rfl, hN1, hN2⟩ := hrel
    by_cases hlt : m < P.length
    · obtain ⟨b, o, ea, ec, rfl, hle, hb, -, hc, -⟩ := HP.out.head hlt
      have hmin := minL_succ hlt
      have hel := HE.out P[m] (List.getElem_mem hlt)
      generalize P[m].l.length = ln at *
      go_wp2_with fail
      go_roundw
      case rel => exact ⟨m + 1, _, by omega, rfl, by go_num, by trivial, by rw [hmin]; omega, by omega⟩
      case measure => simp [RowKit.intOf]; omega
    · obtain rfl : m = P.length := by omega
      rw [List.take_length] at hN1
      have hms := min_sum P
      by_cases h60 : (P.length : Int) ≤ 60
      · by_cases h15 : N ≤ 1500
        · go_wp2
          go_ret
          exact ⟨⟨_, rfl, fun _ => by omega⟩, rfl⟩
        · go_wp2
          go_ret
          exact ⟨⟨_, rfl, fun h => by first | (simp at h; done) | (simp at h; omega)⟩, rfl⟩
      · go_wp2
        go_ret
        exact ⟨⟨_, rfl, fun h => by first | (simp at h; done) | (simp at h; omega)⟩, rfl⟩

set_option maxRecDepth 100000 in
theorem rsame1_any (a1 a2 : Option Addr) (c1 c2 : Nat) (l : List UInt8) (w : World) (h1 : Reads w (.slice a1 l.length c1) l.length 1 (byts l)) (h2 : Reads w (.slice a2 l.length c2) l.length 1 (byts l)) :
    Calls Tryz.prog 65 #[.slice a1 l.length c1, .slice a2 l.length c2] w fun e w' => e = .returned (.bool true) ∧ w' = w := by
  have hc1 := conv_all w a1 c1 l h1
  have hc2 := conv_all w a2 c2 l h2
  clear h1 h2
  go_enter Tryz.func65, Tryz.ntmps65
  go_wp2_with (first | simp only [hc1, hc2] | fail)
  go_ret
  exact ⟨rfl, rfl⟩

set_option maxRecDepth 100000 in
set_option maxHeartbeats 2000000 in
/-- Two lists with the same bytes are the same. -/
theorem rsameL_any (v1 v2 : Value) (P Q : List SL) (w : World) (h1 : SLs w v1 P) (h2 : SLs w v2 Q) (he : P.map SL.l = Q.map SL.l) (hl : P.length ≤ 1000000000) :
    Calls Tryz.prog 21 #[v1, v2] w fun e w' => e = .returned (.bool true) ∧ Below w.heap.size w w' := by
  obtain ⟨a1, c1, rfl⟩ := h1.form
  obtain ⟨a2, c2, rfl⟩ := h2.form
  have hlen : Q.length = P.length := by have := congrArg List.length he; simpa using this.symm
  have H1 := Lib.hid h1
  have H2 := Lib.hid h2
  have HE := Lib.hid he
  have HLN := Lib.hid hlen
  rw [hlen]
  clear h1 h2 he hlen
  go_enter Tryz.func21, Tryz.ntmps21
  go_wp2_with fail
  go_loopw [5] (fun i w' => ∃ m : Nat, m ≤ P.length ∧ i = .int .i64 m ∧ Hid (Below w.heap.size w w')) (fun i _ => P.length - (RowKit.intOf i).toNat)
  case atStart => exact ⟨0, by omega, rfl, Below.refl _ _⟩
  case round =>
    obtain ⟨m, hm, rfl, HB⟩ := hrel
    by_cases hlt : m < P.length
    · obtain ⟨b, o, ea, ec, rfl, hle, hb, -, hc, hr⟩ := (H1.out.later HB.out).head hlt
      have hlt2 : m < Q.length := by have := HLN.out; omega
      have h2' := H2.out.later HB.out
      have hel : Q[m].l = P[m].l := by
        have := congrArg (fun l => l[m]?) HE.out
        simpa [hlt, hlt2] using this.symm
      obtain ⟨b2, o2, ea2, ec2, rfl, hle2, hb2, -, hc2, hr2⟩ := h2'.head hlt2
      rw [hel] at hc2 hr2
      rw [HLN.out] at hle2
      generalize P[m].l = pl at *
      have HSM := Lib.hid (rsame1_any ea ea2 ec ec2 pl)
      have HR := Lib.hid hr
      have HR2 := Lib.hid hr2
      clear hr hr2 h2' hel
      have HKS : Hid (∀ w', Hid (Below wr.heap.size wr w') → w'.cell? ⟨b, o + m, none⟩ = some (.slice ea pl.length ec) ∧ w'.cell? ⟨b2, o2 + m, none⟩ = some (.slice ea2 pl.length ec2)) := fun w' hb' => ⟨(hb'.out.cell (p := ⟨b, o + m, none⟩) hb).trans hc, (hb'.out.cell (p := ⟨b2, o2 + m, none⟩) hb2).trans hc2⟩
      have HB0 : Hid (Below wr.heap.size wr wr.drew) := (Below.refl _ _).drew
      go_upto_region 6 with fail
      go_region_held3 (fun w' => w'.cell? ⟨b, o + m, none⟩ = some (.slice ea pl.length ec) ∧ w'.cell? ⟨b2, o2 + m, none⟩ = some (.slice ea2 pl.length ec2)) (exact HKS.out _ (by assumption))
        (first | (go_at_call 65; refine (HSM.out _ (HR.out.later (Hid.out (by assumption))) (HR2.out.later (Hid.out (by assumption)))).mono ?_; rintro e w3 ⟨rfl, rfl⟩))
      have HBN := Lib.hid (HB.out.drew)
      go_wp2
      go_roundw
      case rel => exact ⟨m + 1, by omega, by go_num, HBN⟩
      case measure => simp [RowKit.intOf]; omega
    · obtain rfl : m = P.length := by omega
      go_wp2
      go_ret
      exact ⟨rfl, HB.out⟩
end Go.Proofs.YtgdmdbdljmlkkaaGreatDoor
namespace Go.Proofs.YtgdmdbdljmlkkaaGreatDoor
set_option linter.unusedVariables false
set_option linter.unusedSimpArgs false
open Go.RowKit

def runS (most : Int) (s : Seg) (l : List (List UInt8)) : Seg := l.foldl (fun s r => (stepS most s r).1) s
theorem runS_snoc (most : Int) (s : Seg) (l : List (List UInt8)) (r : List UInt8) : runS most s (l ++ [r]) = (stepS most (runS most s l) r).1 := by unfold runS; rw [List.foldl_append]; rfl
theorem runS_take {P : List SL} {m : Nat} (h : m < P.length) (most : Int) (s : Seg) : runS most s ((P.take (m + 1)).map SL.l) = (stepS most (runS most s ((P.take m).map SL.l)) P[m].l).1 := by
  rw [List.take_succ_eq_append_getElem h, List.map_append]; exact runS_snoc _ _ _ _
theorem stepS_i0 (most : Int) (s : Seg) (r : List UInt8) : (stepS most s r).1.i0 = s.i0 ∧ (stepS most s r).1.pre.length ≤ s.pre.length + 1 := by
  unfold stepS
  split
  · exact ⟨rfl, by show s.pre.length ≤ _; omega⟩
  · split
    · exact ⟨rfl, by show s.pre.length ≤ _; omega⟩
    · split
      · exact ⟨rfl, by simp⟩
      · exact ⟨rfl, by show s.pre.length ≤ _; omega⟩
theorem stepS_len (most : Int) (s : Seg) (r : List UInt8) : (framesB (stepS most s r).1.all).length ≤ (framesB s.all).length + (r.length + 8) := by
  rw [stepS_all, framesB_append, List.length_append]
  split
  · rw [framesB_one, frameB_length]; omega
  · simp [framesB]
/-- What a run has. -/
structure RunI (most : Int) (s : Seg) (q b : Nat) : Prop where
  good : s.good most
  i0 : s.i0 = 0
  pre : s.pre.length ≤ q
  len : (framesB s.all).length ≤ b + 8 * q
theorem runI_0 (most : Int) : RunI most seg0 0 0 := ⟨seg0_good most, rfl, Nat.le_refl _, by simp [seg0, Seg.all, framesB]⟩
theorem RunI.step {most : Int} {s : Seg} {q b : Nat} (h : RunI most s q b) (hq : q ≤ 300) (r : List UInt8) (hr : r.length ≤ 2000) : RunI most (stepS most s r).1 (q + 1) (b + r.length) := by
  have h1 := stepS_i0 most s r
  have h2 := stepS_len most s r
  have h3 := h.i0
  have h4 := h.pre
  have h5 := h.len
  exact ⟨stepS_good h.good (by omega) r hr, by omega, by omega, by omega⟩
theorem sumL_take {P : List SL} {m : Nat} (h : m < P.length) : sumL (P.take (m + 1)) = sumL (P.take m) + P[m].l.length := by
  unfold sumL
  rw [List.take_succ_eq_append_getElem h, List.map_append, List.sum_append]; simp
theorem sumL_le (P : List SL) (m : Nat) : sumL (P.take m) ≤ sumL P := by
  conv => rhs; rw [← List.take_append_drop m P]
  unfold sumL
  rw [List.map_append, List.sum_append]; omega
theorem sumL_at {P : List SL} {m : Nat} (h : m < P.length) : P[m].l.length ≤ sumL P := by
  have h1 := sumL_take h
  have h2 := sumL_le P (m + 1)
  omega
theorem runI_take (most : Int) (P : List SL) (hP : P.length ≤ 300) (hs : sumL P ≤ 2000) : ∀ m, m ≤ P.length → RunI most (runS most seg0 ((P.take m).map SL.l)) m (sumL (P.take m))
  | 0, _ => by
    have := runI_0 most
    simpa [runS, sumL] using this
  | m + 1, hm => by
    have ih := runI_take most P hP hs m (by omega)
    have hlt : m < P.length := by omega
    rw [runS_take hlt, sumL_take hlt]
    exact ih.step (by omega) _ (by have := sumL_at hlt; omega)

theorem readD_up {D : DS} (h : D.down = false) (n : ByteArray) : (readD D n).1 = match findD D.files n with
    | some f => f.b
    | none => [] := by
  unfold readD
  rw [if_neg (by rw [h]; simp)]
  cases findD D.files n <;> rfl
theorem rel_names_mem {D F : DS} (h : Rel D F) (x : ByteArray) : x ∈ D.files.map DF.name ↔ x ∈ F.files.map DF.name := by
  have h1 := findD_none (l := D.files) (n := x)
  have h2 := findD_none (l := F.files) (n := x)
  rw [h.same] at h1
  rw [← Classical.not_not (a := x ∈ D.files.map DF.name), ← Classical.not_not (a := x ∈ F.files.map DF.name)]
  exact not_congr (h1.symm.trans h2)
theorem recsD_rel {D F : DS} (h : Rel D F) (hd : F.down = false) : recsD D = recsF F.files := by
  unfold recsD recsF
  rw [refL_same (rel_names_mem h), List.flatMap_def, List.flatMap_def]
  congr 1
  refine List.map_congr_left (fun n _ => ?_)
  rw [readD_up (by rw [h.down]; exact hd), h.same]
  rfl
theorem rel_segs {D : DS} {room : Int} {s : Seg} (h : Rel D (segD room s)) (hn : s.i0 + s.pre.length + 1 ≤ 99999999) : refL (D.files.map DF.name) = upto s.i0 (s.pre.length + 1) := by
  rw [refL_same (rel_names_mem h), show (segD room s).files = s.files from rfl, seg_names, refL_names (by omega)]
theorem rel_recs {D : DS} {room most : Int} {s : Seg} (h : Rel D (segD room s)) (hg : s.good most) : recsD D = s.all := by
  rw [recsD_rel h rfl]; exact recs_seg hg
theorem preF_fit {most : Int} : ∀ {i : Nat} {a : List (List (List UInt8))}, (∀ c ∈ a, ((framesB c).length : Int) ≤ most ∨ c = []) → 0 ≤ most → ∀ f ∈ preF i a, (f.b.length : Int) ≤ most
  | _, [], _, _, f, hf => by cases hf
  | i, c :: a, h, h0, f, hf => by
    rw [preF] at hf
    rcases List.mem_cons.1 hf with rfl | hf
    · rcases h c (by simp) with h1 | h1
      · exact h1
      · subst h1; simpa [framesB] using h0
    · exact preF_fit (fun c hc => h c (by simp [hc])) h0 f hf
/-- No segment is longer than the greatest size. -/
theorem rel_fit {D : DS} {room most : Int} {s : Seg} (h : Rel D (segD room s)) (hg : s.good most) (h0 : 0 ≤ most) (n : ByteArray) : ((readD D n).1.length : Int) ≤ most := by
  rw [readD_up (by rw [h.down]; rfl), h.same]
  cases hf : findD (segD room s).files n with
  | none => simpa using h0
  | some f =>
    obtain ⟨-, hm⟩ := findD_name hf
    have hm2 : f ∈ preF s.i0 s.pre ++ [s.last] := hm
    rcases List.mem_append.1 hm2 with hm2 | hm2
    · exact preF_fit (fun c hc => hg.fit c (List.mem_append_left _ hc)) h0 f hm2
    · rw [List.mem_singleton.1 hm2]
      show ((framesB s.cur).length : Int) ≤ most
      rcases hg.fit s.cur (by simp) with h1 | h1
      · exact h1
      · rw [h1]; simpa [framesB] using h0
/-- What a crash that keeps nothing leaves. -/
theorem rel_cut {D : DS} {room most : Int} {s : Seg} (h : Rel D (segD room s)) (hg : s.good most) {ss : List (List UInt8)} (h1 : ss.Pairwise (· < ·)) (h2 : ∀ x : List UInt8, x ∈ ss ↔ ⟨x.toArray⟩ ∈ D.files.map DF.name) (ks : List Int) :
    ∃ j, recsD (crashN D ss ks ss.length) = s.all.take j ∧ j ≤ s.all.length ∧ s.all.length - s.wt ≤ j ∧ (ks = [] → j = s.all.length - s.wt) := by
  rw [recsD_rel (rel_crash h h1 h2 ks) rfl]
  exact recs_crash hg ks
end Go.Proofs.YtgdmdbdljmlkkaaGreatDoor
namespace Go.Proofs.YtgdmdbdljmlkkaaGreatDoor
set_option linter.unusedVariables false
set_option linter.unusedSimpArgs false
open Go.RowKit

theorem runI_from {most : Int} {s : Seg} {q b : Nat} (h : RunI most s q b) (P : List SL) (hP : q + P.length ≤ 300) (he : ∀ x ∈ P, x.l.length ≤ 2000) : ∀ m, m ≤ P.length → RunI most (runS most s ((P.take m).map SL.l)) (q + m) (b + sumL (P.take m))
  | 0, _ => by simpa [runS, sumL] using h
  | m + 1, hm => by
    have ih := runI_from h P hP he m (by omega)
    have hlt : m < P.length := by omega
    rw [runS_take hlt, sumL_take hlt, show q + (m + 1) = q + m + 1 by omega, show b + (sumL (P.take m) + P[m].l.length) = b + sumL (P.take m) + P[m].l.length by omega]
    exact ih.step (by omega) _ (he _ (List.getElem_mem hlt))
theorem RunI.synced {most : Int} {s : Seg} {q b : Nat} (h : RunI most s q b) : RunI most { s with wt := 0 } q b :=
  ⟨⟨h.good.num, Nat.zero_le _, h.good.lens, h.good.fit⟩, h.i0, h.pre, h.len⟩
theorem runS_filter (most : Int) (l : List (List UInt8)) : ∀ s : Seg, (runS most s l).all = s.all ++ l.filter (takes most) := by
  induction l with
  | nil => intro s; simp [runS]
  | cons r l ih =>
    intro s
    show (runS most (stepS most s r).1 l).all = _
    rw [ih, stepS_all, List.filter_cons, List.append_assoc]
    split <;> simp
theorem stepS_wt {most : Int} {s : Seg} {n : Nat} (r : List UInt8) (h : n + s.wt ≤ s.all.length) : n + (stepS most s r).1.wt ≤ (stepS most s r).1.all.length := by
  have hal := congrArg List.length (stepS_all most s r)
  rw [List.length_append] at hal
  by_cases h1 : r = []
  · rw [hal]; unfold stepS; rw [if_pos h1]; show n + s.wt ≤ _; omega
  · by_cases h2 : most < (r.length : Int) + 8
    · rw [hal]; unfold stepS; rw [if_neg h1, if_pos h2]; show n + s.wt ≤ _; omega
    · have ht : takes most r = true := decide_eq_true ⟨h1, by omega⟩
      rw [ht, if_pos rfl] at hal
      rw [hal]; unfold stepS; rw [if_neg h1, if_neg h2]
      split
      · show n + 1 ≤ _; simp; omega
      · show n + (s.wt + 1) ≤ _; simp; omega
theorem runS_wt {most : Int} {n : Nat} (l : List (List UInt8)) : ∀ {s : Seg}, n + s.wt ≤ s.all.length → n + (runS most s l).wt ≤ (runS most s l).all.length := by
  induction l with
  | nil => intro s h; exact h
  | cons r l ih => intro s h; exact ih (stepS_wt r h)
theorem runS_len {P : List SL} {k : Nat} (h : k < P.length) (most : Int) (s : Seg) : (runS most s ((P.take (k + 1)).map SL.l)).all = (runS most s ((P.take k).map SL.l)).all ++ (if takes most P[k].l then [P[k].l] else []) := by
  rw [runS_take h, stepS_all]

/-- Sync. -/
theorem Live8.sync {w0 w : World} {bl bx : Nat} {L : LS} {room most : Int} {s : Seg} {q : Nat} {S : Nat → Prop} (h : Live8 w0 w bl bx L room most s q S) (ht : Tab w0) :
    Calls Tryz.prog 42 #[.pointer (some ⟨bl, 0, none⟩)] w fun e w' => ∃ L' S', e = .returned (.int .i64 0) ∧ Live8 w0 w' bl bx L' room most { s with wt := 0 } q S' ∧ Chg S w w' ∧ (∀ k, S' k → S k ∨ w.heap.size ≤ k) := by
  have hrel := rel_synG h.rel
  have hnum := h.good.num
  rw [synG_seg (by omega)] at hrel
  refine (lsync_any L bl _ _ w h.log (tab_below ht h.bel) h.bnd.d.plan).mono ?_
  rintro e w2 ⟨rfl, hlog, hc⟩
  have hs := hc.size
  refine ⟨(synG opsD L).1, _, by rw [hrel.1], ⟨hlog.tight, fun k hk => ?_, hrel.2, bnd_synG h.bnd, h.chg hc, ⟨h.good.num, Nat.zero_le _, h.good.lens, h.good.fit⟩⟩, hc, fun k hk => hk.1⟩
  have := h.bel.size
  rcases hk.1 with h1 | h1
  · exact ⟨(h.sub k h1).1, hk.2⟩
  · exact ⟨by omega, hk.2⟩
end Go.Proofs.YtgdmdbdljmlkkaaGreatDoor
