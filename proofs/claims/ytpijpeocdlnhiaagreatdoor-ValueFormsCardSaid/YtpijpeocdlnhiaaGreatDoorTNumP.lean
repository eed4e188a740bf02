/- num.Parse: the number with a text. -/
import Derived.Test.YtpijpeocdlnhiaaGreatDoorTNum
import Derived.Test.YtpijpeocdlnhiaaGreatDoorTPu
namespace Go.Proofs.YtpijpeocdlnhiaaGreatDoor
set_option linter.unusedVariables false
set_option linter.unusedSimpArgs false
open Go.RowKit

section
variable {κ : Type} [DecidableEq κ] {P : Program} {t kt e : TypeId} {enc : κ → Value}
theorem wpList_ins (K : KeyOk P kt κ enc) (ht : P.underlying t = some (.map kt e)) {w : World} {ops : Array Oper} {rest : List Oper} {o : Oper} {a : Act} {Q : Exit → Act → World → Prop} (hg : o.guard = none) {m x v : Operand} (hop : o.op = Op.insert t m x v)
    {b : Nat} {F : κ → Option Value} (hm : a.eval m = .map (some b)) (h : MapFn w enc b F) {k : κ} (hx : a.eval x = enc k) {val : Value} (hv : a.eval v = val)
    (hK : ∀ w', MapFn w' enc b (fun y => if y = k then some val else F y) → Chg (fun n => n = b) w w' → w'.heap.size = w.heap.size → wpList P ops Q rest (a.put o.dst undef) w') : wpList P ops Q (o :: rest) a w := by
  refine wpList_plain hg fun K' hK' => ?_
  obtain ⟨w', hrun, r1, r2, r3⟩ := run_update_fn K ht h k val
  unfold Oper.wp
  simp [execOp, hop, hm, hx, hv, hrun, Result.andThen]
  exact hK' _ _ (hK w' r1 r2 r3)
end
theorem keyS : KeyOk Tryz.prog 9 ByteArray Value.string := keyString Tryz.underlying9
set_option maxRecDepth 100000 in
set_option maxHeartbeats 1000000 in
theorem nan_any (w : World) : Calls Tryz.prog 156 #[] w fun e w' => e = .returned (.float .f64 9221120237041090561) ∧ w = w' := by
  have hb : ∀ (w : World), (callFunc 110 #[.int .u64 9221120237041090561]).run Tryz.prog w = .ok (.value (.float .f64 9221120237041090561)) w := call_bits2 9221120237041090561
  go_enter Tryz.func156, Tryz.ntmps156
  go_wp2
  go_ret
  exact ⟨rfl, rfl⟩
set_option maxRecDepth 100000 in
set_option maxHeartbeats 1000000 in
theorem inf_any (w : World) : Calls Tryz.prog 157 #[.int .i64 1] w fun e w' => e = .returned (.float .f64 9218868437227405312) ∧ w = w' := by
  have hb : ∀ (w : World), (callFunc 110 #[.int .u64 9218868437227405312]).run Tryz.prog w = .ok (.value (.float .f64 9218868437227405312)) w := call_bits2 9218868437227405312
  go_enter Tryz.func157, Tryz.ntmps157
  go_wp2
  go_ret
  exact ⟨rfl, rfl⟩
set_option maxRecDepth 100000 in
set_option maxHeartbeats 1000000 in
theorem minf_any (w : World) : Calls Tryz.prog 157 #[.int .i64 (-1)] w fun e w' => e = .returned (.float .f64 18442240474082181120) ∧ w = w' := by
  have hb : ∀ (w : World), (callFunc 110 #[.int .u64 18442240474082181120]).run Tryz.prog w = .ok (.value (.float .f64 18442240474082181120)) w := call_bits2 18442240474082181120
  go_enter Tryz.func157, Tryz.ntmps157
  go_wp2
  go_ret
  exact ⟨rfl, rfl⟩
set_option maxRecDepth 100000 in
set_option maxHeartbeats 1000000 in
theorem cps_any (w : World) : Calls Tryz.prog 158 #[.float .f64 0, .float .f64 13830554455654793216] w fun e w' => e = .returned (.float .f64 9223372036854775808) ∧ w = w' := by
  have hb0 : ∀ (w : World), (callFunc 73 #[.float .f64 0]).run Tryz.prog w = .ok (.value (.int .u64 0)) w := call_bits 0
  have hb1 : ∀ (w : World), (callFunc 73 #[.float .f64 13830554455654793216]).run Tryz.prog w = .ok (.value (.int .u64 13830554455654793216)) w := call_bits 13830554455654793216
  have h1 : bits BinOp.andNot IntKind.u64 0 9223372036854775808 = 0 := by decide +kernel
  have h2 : bits BinOp.and IntKind.u64 13830554455654793216 9223372036854775808 = 9223372036854775808 := by decide +kernel
  have h3 : bits BinOp.or IntKind.u64 0 9223372036854775808 = 9223372036854775808 := by decide +kernel
  have hb : ∀ (w : World), (callFunc 110 #[.int .u64 9223372036854775808]).run Tryz.prog w = .ok (.value (.float .f64 9223372036854775808)) w := call_bits2 9223372036854775808
  go_enter Tryz.func158, Tryz.ntmps158
  go_wp2
  go_ret
  exact ⟨rfl, rfl⟩

theorem ba_data' (s : ByteArray) : (⟨s.data.toList.toArray⟩ : ByteArray) = s := by cases s; simp
/-- The map of the names of numbers. -/
def specF (s : ByteArray) : Option Value := (special s.data.toList).map fun f => .float .f64 f
theorem ba_eq_iff (s : ByteArray) (l : List UInt8) : s = ⟨l.toArray⟩ ↔ s.data.toList = l := by
  constructor
  · rintro rfl; rfl
  · rintro rfl; exact (ba_data' s).symm
theorem specF_eq : specF = (fun y => if y = ⟨#[45, 48]⟩ then some (.float .f64 9223372036854775808) else if y = ⟨#[48]⟩ then some (.float .f64 0) else if y = ⟨#[45, 105, 110, 102]⟩ then some (.float .f64 18442240474082181120) else if y = ⟨#[105, 110, 102]⟩ then some (.float .f64 9218868437227405312) else if y = ⟨#[110, 97, 110]⟩ then some (.float .f64 9221120237041090561) else none) := by
  funext s
  unfold specF special
  have h1 := ba_eq_iff s nanL
  have h2 := ba_eq_iff s infL
  have h3 := ba_eq_iff s minfL
  have h4 := ba_eq_iff s zeroL
  have h5 := ba_eq_iff s mzeroL
  have d12 : nanL ≠ infL := by decide
  have d13 : nanL ≠ minfL := by decide
  have d14 : nanL ≠ zeroL := by decide
  have d15 : nanL ≠ mzeroL := by decide
  have d23 : infL ≠ minfL := by decide
  have d24 : infL ≠ zeroL := by decide
  have d25 : infL ≠ mzeroL := by decide
  have d34 : minfL ≠ zeroL := by decide
  have d35 : minfL ≠ mzeroL := by decide
  have d45 : zeroL ≠ mzeroL := by decide
  show _ = (if s = ⟨mzeroL.toArray⟩ then _ else if s = ⟨zeroL.toArray⟩ then _ else if s = ⟨minfL.toArray⟩ then _ else if s = ⟨infL.toArray⟩ then _ else if s = ⟨nanL.toArray⟩ then _ else _)
  simp only [h1, h2, h3, h4, h5]
  generalize s.data.toList = l at *
  clear h1 h2 h3 h4 h5
  by_cases e1 : l = nanL
  · subst e1
    rw [if_pos rfl, if_neg d15, if_neg d14, if_neg d13, if_neg d12, if_pos rfl]; rfl
  rw [if_neg e1]
  by_cases e2 : l = infL
  · subst e2
    rw [if_pos rfl, if_neg d25, if_neg d24, if_neg d23, if_pos rfl]; rfl
  rw [if_neg e2]
  by_cases e3 : l = minfL
  · subst e3
    rw [if_pos rfl, if_neg d35, if_neg d34, if_pos rfl]; rfl
  rw [if_neg e3]
  by_cases e4 : l = zeroL
  · subst e4
    rw [if_pos rfl, if_neg d45, if_pos rfl]; rfl
  rw [if_neg e4]
  by_cases e5 : l = mzeroL
  · subst e5
    rw [if_pos rfl, if_pos rfl]; rfl
  rw [if_neg e5, if_neg e5, if_neg e4, if_neg e3, if_neg e2, if_neg e1]; rfl
set_option maxRecDepth 100000 in
set_option maxHeartbeats 4000000 in
theorem special_any (w : World) :
    Calls Tryz.prog 129 #[] w fun e w' => e = .returned (.map (some w.heap.size)) ∧ MapFn w' Value.string w.heap.size specF ∧ Below w.heap.size w w' := by
  have HM := MapFn.made w Value.string
  have HC : Hid (Below w.heap.size w (w.alloc (.map #[] 0))) := (Below.refl _ _).alloc (Nat.le_refl _) _
  have hcn : canonB 9221120237041090561 = 9221120237041090561 := by decide
  have HCN := fun W => canon_any 9221120237041090561 (by decide) W
  rw [hcn] at HCN
  have hmm := @run_makeMap Tryz.prog
  go_enter Tryz.func129, Tryz.ntmps129
  go_wp2_with (first
    | (go_at_call 156; refine (nan_any _).mono ?_; rintro e w1 ⟨rfl, rfl⟩)
    | (go_at_call 74; refine (HCN _).mono ?_; rintro e w1 ⟨rfl, rfl⟩)
    | (go_at_call 158; refine (cps_any _).mono ?_; rintro e w1 ⟨rfl, rfl⟩)
    | (go_at_call 157; first | (refine (inf_any _).mono ?_; rintro e w1 ⟨rfl, rfl⟩) | (refine (minf_any _).mono ?_; rintro e w1 ⟨rfl, rfl⟩))
    | (refine wpList_ins keyS Tryz.underlying170 rfl rfl (b := w.heap.size) rfl (by assumption) rfl rfl ?_; intro w1 hm1 hc1 hs1; replace HC := Lib.hid (HC.out.trans (hc1.toBelow HC.out.size (fun n hn h => by omega))); clear hc1 hs1))
  go_ret
  refine ⟨rfl, ?_, HC.out⟩
  have hF : specF = _ := specF_eq
  rw [hF]
  exact hm1

theorem zeroF (w : World) : (zeroValue 23).run Tryz.prog w = .ok (.float .f64 0) w := by kernel_rfl
theorem special_lt' {s : List UInt8} {f : Nat} (h : special s = some f) : f < 18446744073709551616 := by
  unfold special at h
  repeat' split at h
  all_goals first
    | (cases h; decide)
    | cases h
theorem puV_ok {M : Nat} {l : List UInt8} {v : Nat} (h : puE M l = .ok v) : puV M l = v := by unfold puV; rw [h]
set_option maxRecDepth 100000 in
set_option maxHeartbeats 4000000 in
theorem nparse_any (s : ByteArray) (hs : s.size ≤ 1000000) (w : World) (hE : Errs w) (hT : w.cell? ⟨9, 15, none⟩ = some (.int .u8 4)) :
    Calls Tryz.prog 104 #[.string s] w fun e w' => (∃ ok, e = .returned (.tuple #[.float .f64 (numParseF s.data.toList), .bool ok])) ∧ Below w.heap.size w w' := by
  have HE := Lib.hid hE
  have HT := Lib.hid hT
  have hg : 9 < w.heap.size := World.block_lt_of_cell? w ⟨9, 15, none⟩ hT
  clear hE hT
  cases hsp : special s.data.toList with
  | some f =>
    have hF : specF s = some (.float .f64 f) := by unfold specF; rw [hsp]; rfl
    have hN : numParseF s.data.toList = f := by unfold numParseF; rw [hsp]
    rw [hN]
    clear hN hsp
    go_enter Tryz.func104, Tryz.ntmps104
    go_wp2_with fail
    refine (special_any _).mono ?_
    rintro e w1 ⟨rfl, hm, hb⟩
    have hlk := run_lookup_fn keyS Tryz.underlying170 (zeroF w1) hm s true
    rw [hF] at hlk
    simp only [Option.getD_some, Option.isSome_some, if_true] at hlk
    have HB := Lib.hid hb
    clear hb hm hF
    go_wp2
    go_ret2
    exact ⟨⟨_, rfl⟩, HB.out⟩
  | none =>
    have hF : specF s = none := by unfold specF; rw [hsp]; rfl
    have HSZ : s.size = s.data.toList.length := by rw [← Lib.size_eq]
    have HCP := fun W => Tryz.strings_CutPrefix s ⟨#[120]⟩ W
    by_cases hx : ∃ r, s.data.toList = 120 :: r
    · obtain ⟨r, hr⟩ := hx
      have hpre : Lib.hasPrefix s.data.toList [120] = true := by rw [hr]; rfl
      have htp : Lib.trimPrefix s.data.toList [120] = r := by unfold Lib.trimPrefix; rw [hpre, if_pos rfl, hr]; rfl
      have HCP : Hid (∀ W, Calls Tryz.prog 130 #[.string s, .string ⟨#[120]⟩] W fun e w' => e = .returned (.tuple #[.string ⟨r.toArray⟩, .bool true]) ∧ w' = W) := by
        intro W
        have h := HCP W
        rw [show (⟨#[120]⟩ : ByteArray).data.toList = [120] from rfl, hpre, htp] at h
        exact h
      have hrl : r.length ≤ 1000000 := by rw [hr, List.length_cons] at HSZ; omega
      have HPF : Hid (numParseF s.data.toList = (match puE 18446744073709551615 r with | .ok b => if numTextL b = s.data.toList then b else 0 | _ => 0)) := by
        rw [Hid]; unfold numParseF; rw [hsp]; simp only [hr, if_pos]; rfl
      obtain ⟨rb, hrb⟩ : ∃ rb : ByteArray, rb = ⟨r.toArray⟩ := ⟨_, rfl⟩
      have hrb2 : rb.data.toList = r := by rw [hrb]
      have hrsz : rb.size ≤ 1000000 := by rw [Lib.size_eq, hrb2]; exact hrl
      rw [← hrb] at HCP
      have HRB := Lib.hid hrb2
      obtain ⟨F, hF0⟩ : ∃ F, F = numParseF s.data.toList := ⟨_, rfl⟩
      rw [← hF0] at HPF ⊢
      obtain ⟨sl, hsl⟩ : ∃ sl, sl = s.data.toList := ⟨_, rfl⟩
      rw [← hsl] at HPF
      have HSL := Lib.hid hsl
      clear hrb hrb2 hrl htp hpre hsp hr HSZ hF0 hsl
      go_enter Tryz.func104, Tryz.ntmps104
      go_wp2_with fail
      refine (special_any _).mono ?_
      rintro e w1 ⟨rfl, hm, hb⟩
      have hlk := run_lookup_fn keyS Tryz.underlying170 (zeroF w1) hm s true
      rw [hF] at hlk
      simp only [Option.getD_none, Option.isSome_none, if_true] at hlk
      have HB := Lib.hid hb
      have HE1 := Lib.hid (HE.out.later hb)
      have HT1 : Hid (w1.cell? ⟨9, 15, none⟩ = some (.int .u8 4)) := (hb.cell (p := ⟨9, 15, none⟩) hg).trans HT.out
      clear hb hm hF HE HT
      have hg1 : 9 < w1.heap.size := Nat.lt_of_lt_of_le hg HB.out.size
      go_wp2_with fail
      refine (HCP.out _).mono ?_
      rintro e w2 ⟨rfl, rfl⟩
      clear hlk HCP
      go_wp2_with fail
      refine (pu16_64 rb (by omega) _ HE1.out).mono ?_
      rintro e w3 ⟨⟨err, rfl, herr⟩, hb3⟩
      have HB3 := Lib.hid (HB.out.trans (hb3.mono HB.out.size))
      have HT3 : Hid (w3.cell? ⟨9, 15, none⟩ = some (.int .u8 4)) := (hb3.cell (p := ⟨9, 15, none⟩) hg1).trans HT1.out
      have hpl := puV_le 18446744073709551615 rb.data.toList
      rw [HRB.out] at herr hpl ⊢
      have HPV : Hid (∀ v, puE 18446744073709551615 r = .ok v → puV 18446744073709551615 r = v) := fun v h => puV_ok h
      clear hb3 HE1 HT1 HRB
      generalize puV 18446744073709551615 r = pv at *
      rcases herr with ⟨⟨v, hv⟩, rfl⟩ | ⟨hno, N, rfl⟩
      · have hvv := HPV.out v hv
        subst hvv
        rw [Hid, hv] at HPF
        simp only [] at HPF
        have HPF2 := Lib.hid HPF
        have hb2 : ∀ (w : World), (callFunc 110 #[.int .u64 pv]).run Tryz.prog w = .ok (.value (.float .f64 pv)) w := call_bits2 pv
        have HNT := Lib.hid (ntext_any pv (by omega) w3 HT3.out)
        clear hv HPF HPV HT3
        go_wp2_with fail
        refine HNT.out.mono ?_
        rintro e w4 ⟨rfl, hb4⟩
        have HB4 := Lib.hid (HB3.out.trans (hb4.mono HB3.out.size))
        clear hb4 HNT
        obtain ⟨tb, htb⟩ : ∃ tb : ByteArray, tb = ⟨(numTextL pv).toArray⟩ := ⟨_, rfl⟩
        have htb2 : tb.data.toList = numTextL pv := by rw [htb]
        rw [← htb]
        by_cases he : tb = s
        · have : F = pv := by rw [HPF2.out, if_pos]; rw [HSL.out, ← he, htb2]
          subst this
          have HT := Lib.hid htb
          clear htb htb2 HPF2
          subst he
          go_wp2
          go_ret2
          exact ⟨⟨_, rfl⟩, HB4.out⟩
        · have : F = 0 := by
            rw [HPF2.out, if_neg]
            intro h
            apply he
            rw [HSL.out, ← htb2] at h
            rw [← ba_data' tb, h, ba_data']
          subst this
          have hne := ba_beq tb s
          rw [decide_eq_false he] at hne
          have hne2 := beq_toListBytes tb s
          rw [hne] at hne2
          have hne3 := hne2.symm
          clear htb htb2 HPF2 hne hne2
          go_wp2
          go_ret2
          exact ⟨⟨_, rfl⟩, HB4.out⟩
      · have h0 : F = 0 := by
          rw [HPF.out]
          cases hh : puE 18446744073709551615 r with
          | ok v => exact absurd ⟨v, hh⟩ hno
          | range => rfl
          | _ => rfl
        subst h0
        clear HPF HPV hno HT3
        go_wp2
        go_ret2
        exact ⟨⟨_, rfl⟩, HB3.out⟩
    · have hpre : Lib.hasPrefix s.data.toList [120] = false := by
        cases hl : s.data.toList with
        | nil => rfl
        | cons c r =>
          have : c ≠ 120 := fun e => hx ⟨r, by rw [hl, e]⟩
          show (([120] : List UInt8).isPrefixOf (c :: r)) = false
          simp [List.isPrefixOf, Ne.symm this]
      have htp : Lib.trimPrefix s.data.toList [120] = s.data.toList := by unfold Lib.trimPrefix; rw [hpre]; rfl
      have HCP : Hid (∀ W, Calls Tryz.prog 130 #[.string s, .string ⟨#[120]⟩] W fun e w' => e = .returned (.tuple #[.string s, .bool false]) ∧ w' = W) := by
        intro W
        have h := HCP W
        rw [show (⟨#[120]⟩ : ByteArray).data.toList = [120] from rfl, hpre, htp, ba_data'] at h
        exact h
      have HPF : numParseF s.data.toList = 0 := by
        unfold numParseF; rw [hsp]
        cases hl : s.data.toList with
        | nil => rfl
        | cons c r =>
          have : c ≠ 120 := fun e => hx ⟨r, by rw [hl, e]⟩
          simp only [if_neg this]
      rw [HPF]
      clear htp hpre hsp HSZ HPF hx
      go_enter Tryz.func104, Tryz.ntmps104
      go_wp2_with fail
      refine (special_any _).mono ?_
      rintro e w1 ⟨rfl, hm, hb⟩
      have hlk := run_lookup_fn keyS Tryz.underlying170 (zeroF w1) hm s true
      rw [hF] at hlk
      simp only [Option.getD_none, Option.isSome_none, if_true] at hlk
      have HB := Lib.hid hb
      have HE1 := Lib.hid (HE.out.later hb)
      clear hb hm hF HE HT
      go_wp2_with fail
      refine (HCP.out _).mono ?_
      rintro e w2 ⟨rfl, rfl⟩
      clear hlk HCP
      go_wp2_with fail
      refine (pu16_64 s (by omega) _ HE1.out).mono ?_
      rintro e w3 ⟨⟨err, rfl, herr⟩, hb3⟩
      have HB3 := Lib.hid (HB.out.trans (hb3.mono HB.out.size))
      clear hb3 HE1 herr
      generalize puV 18446744073709551615 s.data.toList = pv at *
      go_wp2
      go_ret2
      exact ⟨⟨_, rfl⟩, HB3.out⟩
end Go.Proofs.YtpijpeocdlnhiaaGreatDoor
