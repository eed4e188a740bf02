/- Texts for programTexts_holds, joined: TWord, TIdx. -/
import Derived.Test.YtpijpeocdlnhiaaGreatDoorTp11
import Derived.Test.YtpijpeocdlnhiaaGreatDoorTp09
import Derived.Test.YtpijpeocdlnhiaaGreatDoorTp02
import Derived.Laws.ResultCell
import Derived.Laws.Rows
import Derived.Test.YtpijpeocdlnhiaaGreatDoorTp04
import Derived.Laws.Runes
import Derived.Laws.RangeAny
import Derived.WalkMore
import Derived.Lib.OthersKept
set_option linter.unusedVariables false
set_option linter.unusedSimpArgs false
namespace Go.Proofs.YtpijpeocdlnhiaaGreatDoor
open Go.RowKit
theorem results_row1 {P : Program} {fn : Func} {p : Tmp} {ty : TypeId} (h : fn.results = #[.cell p ty]) (tmps : Array Value) (w : World) (g : Nat) (t : TypeId) (cs : Array Value) (fr : Nat × Nat) (d : TypeDesc)
    (hp : tmps.getD p undef = .pointer (some ⟨g, 0, none⟩)) (hg : w.heap[g]? = some (.cells cs t fr))
    (hu : P.underlying ty = some d) (hd : (match d with | .struct _ | .array _ _ => true | _ => false) = true) (hi : (P.info? ty).map (·.size) = some cs.size) :
    (results fn tmps).run P w = .ok (.agg cs) w := results_cell_row h tmps w g t cs fr d hp hg hu hd hi
theorem results_row_tmp {P : Program} {fn : Func} {p u : Tmp} {ty : TypeId} (h : fn.results = #[.cell p ty, .tmp u]) (tmps : Array Value) (w : World) (g : Nat) (t : TypeId) (cs : Array Value) (fr : Nat × Nat) (d : TypeDesc)
    (hp : tmps.getD p undef = .pointer (some ⟨g, 0, none⟩)) (hg : w.heap[g]? = some (.cells cs t fr))
    (hu : P.underlying ty = some d) (hd : (match d with | .struct _ | .array _ _ => true | _ => false) = true) (hi : (P.info? ty).map (·.size) = some cs.size) :
    (results fn tmps).run P w = .ok (.tuple #[.agg cs, tmps.getD u undef]) w := by
  rw [results_cell_tmp h, hp]
  simp [asAddr, run_loadVar_row w g t ty cs fr d hg hu hd hi, Result.andThen]
def atomV (t : VT) : Value := .agg #[.int .i64 t.k, .int .i64 t.n, .float .f64 t.f, .string t.s, .slice none 0 0]
structure Base (w : World) : Prop where
  errs : Errs w
  tab : w.cell? ⟨9, 15, none⟩ = some (.int .u8 4)
theorem Base.later {w w' : World} (h : Base w) (hb : Below w.heap.size w w') : Base w' :=
  ⟨h.errs.later hb, (hb.cell (p := ⟨9, 15, none⟩) (World.block_lt_of_cell? w _ h.tab)).trans h.tab⟩
theorem ex_list (s : ByteArray) (i j : Nat) : (s.extract i j).data.toList = (s.data.toList.drop i).take (j - i) := by
  rw [Lib.extract_eq]
abbrev v5 (w : World) (k : Int) : World := w.alloc (.cells #[.int .i64 k, .int .i64 0, .float .f64 0, .string ⟨#[]⟩, .slice none 0 0] 26)
theorem bs_of {s : ByteArray} {l : List UInt8} (h : s.data.toList = l) : s = ⟨l.toArray⟩ := by rw [← h, ba_data']
theorem set5 {w : World} {b : Nat} {cs : Array Value} {t : TypeId} (h : w.heap[b]? = some (.cells cs t (0, 0))) (hs : cs.size = 5) (x0 x1 x2 x3 x4 : Value) :
    (((((w.setCell ⟨b, 0, none⟩ x0).setCell ⟨b, 1, none⟩ x1).setCell ⟨b, 2, none⟩ x2).setCell ⟨b, 3, none⟩ x3).setCell ⟨b, 4, none⟩ x4).heap[b]? = some (.cells #[x0, x1, x2, x3, x4] t (0, 0)) :=
  setCells_same b t [x0, x1, x2, x3, x4] 0 w cs h (by simp [hs]) |>.trans (by
    congr 2
    apply Array.ext'
    have h5 : cs.toList.drop 5 = [] := List.drop_eq_nil_of_le (by simp [hs])
    simp [h5])
theorem bel5 {B : Nat} {w0 w : World} {b : Nat} (h : Below B w0 w) (hb : B ≤ b) (x0 x1 x2 x3 x4 : Value) :
    Below B w0 (((((w.setCell ⟨b, 0, none⟩ x0).setCell ⟨b, 1, none⟩ x1).setCell ⟨b, 2, none⟩ x2).setCell ⟨b, 3, none⟩ x3).setCell ⟨b, 4, none⟩ x4) :=
  ((((h.setCell hb _).setCell hb _).setCell hb _).setCell hb _).setCell hb _
set_option maxRecDepth 100000 in
set_option maxHeartbeats 4000000 in
theorem word_num (s : ByteArray) (hs : s.size ≤ 1000000) (w : World) (hB : Base w) (h35 : s.data.toList.head? = some 35) :
    Calls Tryz.prog 69 #[.string s] w fun e w' => e = .returned (atomV (wordP s.data.toList)) ∧ Below w.heap.size w w' := by
  have HP0 := fun W => Tryz.strings_HasPrefix s ⟨#[35]⟩ W
  have hpre : Lib.hasPrefix s.data.toList (⟨#[35]⟩ : ByteArray).data.toList = true := by
    cases hl : s.data.toList with
    | nil => rw [hl] at h35; cases h35
    | cons c r => rw [hl] at h35; cases h35; rfl
  rw [hpre] at HP0
  have HP := Lib.hid HP0
  have h1 : 1 ≤ s.size := by
    rw [Lib.size_eq]
    cases hl : s.data.toList with
    | nil => rw [hl] at h35; cases h35
    | cons c r => simp
  have hW : wordP s.data.toList = .node 2 0 (numParseF s.data.toList.tail) ⟨#[]⟩ [] := by unfold wordP; rw [if_pos h35]
  have hA : atomV (wordP s.data.toList) = .agg #[.int .i64 2, .int .i64 0, .float .f64 (numParseF s.data.toList.tail), .string ⟨#[]⟩, .slice none 0 0] := by rw [hW]; rfl
  have hx : (s.extract 1 s.size).data.toList = s.data.toList.tail := by
    rw [ex_list, List.drop_one, List.take_of_length_le]
    rw [List.length_tail, ← Lib.size_eq]; exact Nat.le_refl _
  have hxs : (s.extract 1 s.size).size ≤ 1000000 := by rw [Lib.size_eq, hx, List.length_tail, ← Lib.size_eq]; omega
  have HX : Hid ((v5 w 2).heap[w.heap.size]? = some (.cells #[.int .i64 2, .int .i64 0, .float .f64 0, .string ⟨#[]⟩, .slice none 0 0] 26 (0, 0))) := heap_alloc_new _ _
  have HB1 : Hid (Below w.heap.size w (v5 w 2)) := (Below.refl _ _).alloc (Nat.le_refl _) _
  have HNP := Lib.hid (nparse_any (s.extract 1 s.size) hxs _ (hB.later HB1.out).errs (hB.later HB1.out).tab)
  rw [hx] at HNP
  rw [hA]
  generalize numParseF s.data.toList.tail = F at *
  clear hA hW hpre hx hxs HP0 h35 hB
  go_enter Tryz.func69, Tryz.ntmps69
  go_wp2_with fail
  refine (HP.out _).mono ?_
  rintro e w1 ⟨rfl, rfl⟩
  go_wp2_with fail
  refine HNP.out.mono ?_
  rintro e w2 ⟨⟨ok, rfl⟩, hb2⟩
  have HB2 := Lib.hid (HB1.out.trans (hb2.mono HB1.out.size))
  have HX2 := Lib.hid ((hb2.block _ (lt_of_heap HX.out)).trans HX.out)
  have hr2 := lt_of_heap HX2.out
  have hc0 := cellAt HX2.out 0 (v := .int .i64 2) rfl
  have hc1 := cellAt HX2.out 1 (v := .int .i64 0) rfl
  have hc2 := cellAt HX2.out 2 (v := .float .f64 0) rfl
  have hc3 := cellAt HX2.out 3 (v := .string ⟨#[]⟩) rfl
  have hc4 := cellAt HX2.out 4 (v := .slice none 0 0) rfl
  have hf0 := freeAt HX2.out 0
  have hf1 := freeAt HX2.out 1
  have hf2 := freeAt HX2.out 2
  have hf3 := freeAt HX2.out 3
  have hf4 := freeAt HX2.out 4
  clear hb2 HNP
  go_wp2
  refine bodyPost_ret (results_row1 (P := Tryz.prog) rfl _ _ w.heap.size 26 _ (0, 0) _ rfl (set5 (heap_store HX2.out 2 (.float .f64 F)) rfl _ _ _ _ _) Tryz.underlying26 rfl rfl) rfl ⟨rfl, bel5 (HB2.out.setCell (Nat.le_refl _) _) (Nat.le_refl _) _ _ _ _ _⟩
theorem head_pre (l : List UInt8) (c : UInt8) : Lib.hasPrefix l [c] = decide (l.head? = some c) := by
  cases l with
  | nil => rfl
  | cons a r =>
    show ([c] : List UInt8).isPrefixOf (a :: r) = _
    by_cases h : a = c
    · subst h; simp [List.isPrefixOf]
    · have h2 : ¬ c = a := fun e => h e.symm
      simp [List.isPrefixOf, h, h2]
theorem unhexP_nil (l : List UInt8) (h : l.length ≤ 1) : unhexP l = [] := by
  match l with
  | [] => rfl
  | [a] => rfl
  | a :: b :: r => simp at h
set_option maxRecDepth 100000 in
set_option maxHeartbeats 4000000 in
theorem word_quoted (s : ByteArray) (hs : s.size ≤ 1000000) (w : World) (hB : Base w) (h34 : s.data.toList.head? = some 34) :
    Calls Tryz.prog 69 #[.string s] w fun e w' => e = .returned (atomV (wordP s.data.toList)) ∧ Below w.heap.size w w' := by
  have HP0 : ∀ W, Calls Tryz.prog 67 #[.string s, .string ⟨#[35]⟩] W fun e w' => e = .returned (.bool false) ∧ w' = W := fun W => by
    have h := Tryz.strings_HasPrefix s ⟨#[35]⟩ W
    rw [show (⟨#[35]⟩ : ByteArray).data.toList = [35] from rfl, head_pre, h34] at h
    exact h
  have HP1 : ∀ W, Calls Tryz.prog 67 #[.string s, .string ⟨#[34]⟩] W fun e w' => e = .returned (.bool true) ∧ w' = W := fun W => by
    have h := Tryz.strings_HasPrefix s ⟨#[34]⟩ W
    rw [show (⟨#[34]⟩ : ByteArray).data.toList = [34] from rfl, head_pre, h34] at h
    exact h
  have hW : wordP s.data.toList = .node 3 0 0 ⟨(unhexP (Lib.trimB s.data.toList 34)).toArray⟩ [] := by unfold wordP; rw [h34, if_neg (by decide), if_pos rfl]
  have hA : atomV (wordP s.data.toList) = .agg #[.int .i64 3, .int .i64 0, .float .f64 0, .string ⟨(unhexP (Lib.trimB s.data.toList 34)).toArray⟩, .slice none 0 0] := by rw [hW]; rfl
  have HTR0 := fun W => Tryz.strings_Trim_one s 34 (by decide) W (by omega)
  have htl := trimB_length s.data.toList 34
  rw [hA]
  rw [← Lib.size_eq] at htl
  generalize Lib.trimB s.data.toList 34 = tl at *
  obtain ⟨tr, htr⟩ : ∃ tr : ByteArray, tr = ⟨tl.toArray⟩ := ⟨_, rfl⟩
  have htr2 : tr.data.toList = tl := by rw [htr]
  have hts : tr.size ≤ 1000000 := by rw [Lib.size_eq, htr2]; omega
  simp only [← htr] at HTR0
  have HTR := Lib.hid HTR0
  have HQ := Lib.hid HP0
  have HR := Lib.hid HP1
  have HTL := Lib.hid htr2
  have HX : Hid ((v5 w 3).heap[w.heap.size]? = some (.cells #[.int .i64 3, .int .i64 0, .float .f64 0, .string ⟨#[]⟩, .slice none 0 0] 26 (0, 0))) := heap_alloc_new _ _
  have HB1 : Hid (Below w.heap.size w (v5 w 3)) := (Below.refl _ _).alloc (Nat.le_refl _) _
  have HBA := Lib.hid (hB.later HB1.out)
  have HB0 := Lib.hid hB
  obtain ⟨U, hU⟩ : ∃ U, U = unhexP tl := ⟨_, rfl⟩
  rw [← hU]
  have HU := Lib.hid hU
  clear hA hW HP0 HP1 h34 hB htr htr2 htl HTR0 hU
  go_enter Tryz.func69, Tryz.ntmps69
  go_wp2_with (first
    | (go_at_call 67; first | (refine (HQ.out _).mono ?_; rintro e w1 ⟨rfl, rfl⟩) | (refine (HR.out _).mono ?_; rintro e w1 ⟨rfl, rfl⟩))
    | fail)
  refine (HTR.out _).mono ?_
  rintro e w2 ⟨rfl, hw2⟩
  have HB2 : Hid (Below w.heap.size w w2) := by
    rcases hw2 with rfl | rfl
    · exact HB1.out
    · exact HB1.out.drew
  have HX2 : Hid (w2.heap[w.heap.size]? = some (.cells #[.int .i64 3, .int .i64 0, .float .f64 0, .string ⟨#[]⟩, .slice none 0 0] 26 (0, 0))) := by
    rcases hw2 with rfl | rfl
    · exact HX.out
    · exact HX.out
  have HBA2 : Hid (Base w2) := by
    rcases hw2 with rfl | rfl
    · exact HBA.out
    · exact HBA.out.later ((Below.refl _ _).drew)
  clear hw2 HX HB1 HBA HTR HQ HR
  go_wp2_with fail
  go_loopw [0] (fun vs w' => ∃ (sr sd : ByteArray), vs = .string sr ∧ sr.size + sd.size ≤ 1000000 ∧ Hid (U = sd.data.toList ++ unhexP sr.data.toList) ∧ Hid (w'.heap[w.heap.size]? = some (.cells #[.int .i64 3, .int .i64 0, .float .f64 0, .string sd, .slice none 0 0] 26 (0, 0))) ∧ Hid (Below w.heap.size w w') ∧ Hid (Base w')) (fun vs _ => match vs with | .string s => s.size | _ => 0)
  case atStart => exact ⟨tr, ⟨#[]⟩, rfl, by show tr.size + 0 ≤ _; omega, by rw [Hid, HTL.out, HU.out]; rfl, HX2.out, HB2.out, HBA2.out⟩
  case round =>
    obtain ⟨sr, sd, rfl, hsz, HV, HN, HBE, HBS⟩ := hrel
    have hr2 := lt_of_heap HN.out
    have hc0 := cellAt HN.out 0 (v := .int .i64 3) rfl
    have hc1 := cellAt HN.out 1 (v := .int .i64 0) rfl
    have hc2 := cellAt HN.out 2 (v := .float .f64 0) rfl
    have hc3 := cellAt HN.out 3 (v := .string sd) rfl
    have hc4 := cellAt HN.out 4 (v := .slice none 0 0) rfl
    have hf0 := freeAt HN.out 0
    have hf1 := freeAt HN.out 1
    have hf2 := freeAt HN.out 2
    have hf3 := freeAt HN.out 3
    have hf4 := freeAt HN.out 4
    by_cases hgt : 1 < sr.size
    · obtain ⟨a, b, r, hr⟩ : ∃ a b r, sr.data.toList = a :: b :: r := by
        have hl : sr.data.toList.length = sr.size := by rw [← Lib.size_eq]
        match hm : sr.data.toList with
        | [] => rw [hm] at hl; simp at hl; omega
        | [a] => rw [hm] at hl; simp at hl; omega
        | a :: b :: r => exact ⟨a, b, r, rfl⟩
      have hx1 : (sr.extract 0 2).data.toList = [a, b] := by rw [ex_list, hr]; rfl
      have hx1s : (sr.extract 0 2).size = 2 := by rw [Lib.size_eq, hx1]; rfl
      have hx2 : (sr.extract 2 sr.size).data.toList = r := by
        rw [ex_list, hr, List.drop_succ_cons, List.drop_succ_cons, List.drop_zero, List.take_of_length_le]
        have : sr.size = (a :: b :: r).length := by rw [Lib.size_eq, hr]
        simp at this; omega
      have hx2s : (sr.extract 2 sr.size).size + 2 = sr.size := by
        have : sr.size = (a :: b :: r).length := by rw [Lib.size_eq, hr]
        rw [Lib.size_eq, hx2, this]; rfl
      have HPU := Lib.hid (pu16_8 (sr.extract 0 2) (by omega) wr HBS.out.errs)
      rw [hx1] at HPU
      have hple := puV_le 255 [a, b]
      have HVV : Hid (U = sd.data.toList ++ UInt8.ofNat (puV 255 [a, b]) :: unhexP r) := by rw [Hid, HV.out, hr, unhexP]
      have HX2 := Lib.hid hx2
      clear HV hr hx1 hx1s hx2
      go_wp2_with fail
      refine HPU.out.mono ?_
      rintro e w3 ⟨⟨err, rfl, -⟩, hb3⟩
      generalize puV 255 [a, b] = x at *
      have HB3 := Lib.hid (HBE.out.trans (hb3.mono HBE.out.size))
      have HBS3 := Lib.hid (HBS.out.later hb3)
      have HN3 := Lib.hid ((hb3.block _ (lt_of_heap HN.out)).trans HN.out)
      clear hb3 HPU hc0 hc1 hc2 hc3 hc4 hf0 hf1 hf2 hf3 hf4
      have hr3 := lt_of_heap HN3.out
      have hc3 := cellAt HN3.out 3 (v := .string sd) rfl
      have hf3 := freeAt HN3.out 3
      have hxw : IntKind.u8.wrap (x : Int) = (x : Int) := by rw [IntKind.wrap_u8]; omega
      have hNA : (w3.alloc (.cells #[.int .u8 (x : Int)] 5)).heap[w3.heap.size]? = some (.cells #[.int .u8 (x : Int)] 5 (0, 0)) := heap_alloc_new _ _
      have hcv := run_convert_bytes_back (P := Tryz.prog) (w3.alloc (.cells #[.int .u8 (x : Int)] 5)) 33 9 5 ⟨w3.heap.size, 0, none⟩ 1 [UInt8.ofNat x] Tryz.underlying33 Tryz.underlying5 Tryz.underlying9 (fun k hk => by
        rw [Addr.add_lit]
        have : k = 0 := by simpa using hk
        subst this
        have e : (UInt8.ofNat x).toNat = x := by rw [UInt8.toNat_ofNat']; omega
        rw [List.getElem_cons_zero, e]
        exact cellAt hNA 0 rfl)
      simp only [List.length_singleton] at hcv
      clear hNA
      have HB4 : Hid (Below w.heap.size w (w3.alloc (.cells #[.int .u8 (x : Int)] 5))) := HB3.out.alloc HB3.out.size _
      have HBS4 : Hid (Base (w3.alloc (.cells #[.int .u8 (x : Int)] 5))) := HBS3.out.later ((Below.refl _ _).alloc (Nat.le_refl _) _)
      have HN4 : Hid ((w3.alloc (.cells #[.int .u8 (x : Int)] 5)).heap[w.heap.size]? = some (.cells #[.int .i64 3, .int .i64 0, .float .f64 0, .string sd, .slice none 0 0] 26 (0, 0))) := (Below.heap_alloc _ _ _ hr3).trans HN3.out
      obtain ⟨sx, hsx⟩ : ∃ sx : ByteArray, sx = ⟨[UInt8.ofNat x].toArray⟩ := ⟨_, rfl⟩
      have hsxs : sx.size = 1 := by rw [hsx]; rfl
      have hsxd : sx.data.toList = [UInt8.ofNat x] := by rw [hsx]
      rw [← hsx] at hcv
      have HSX := Lib.hid hsxd
      clear hsx hsxd
      go_wp2_with fail
      have hbn : Below w.heap.size w ((w3.setCell ⟨w.heap.size, 3, none⟩ (.string (sd ++ sx))).alloc (.cells #[.int .u8 (x : Int)] 5)) := (HB3.out.setCell (Nat.le_refl _) _).alloc (by show w.heap.size ≤ (w3.setCell _ _).heap.size; rw [World.size_setCell]; exact HB3.out.size) _
      refine ⟨⟨_, sd ++ sx, rfl, ?_, ?_, ?_, hbn, HB0.out.later hbn⟩, ?_⟩
      · rw [ByteArray.size_append]; omega
      · rw [Hid, HVV.out, HX2.out, ByteArray.data_append, Array.toList_append, HSX.out]; simp
      · exact (Below.heap_alloc _ _ _ (by rw [World.size_setCell]; exact hr3)).trans (heap_store HN3.out 3 _)
      · show (sr.extract 2 sr.size).size < sr.size
        omega
    · go_wp2
      refine bodyPost_ret (results_row1 (P := Tryz.prog) rfl _ _ w.heap.size 26 _ (0, 0) _ rfl (set5 HN.out rfl _ _ _ _ _) Tryz.underlying26 rfl rfl) rfl ⟨?_, bel5 HBE.out (Nat.le_refl _) _ _ _ _ _⟩
      rw [HV.out, unhexP_nil _ (by rw [← Lib.size_eq]; omega), List.append_nil, ba_data']
theorem pint_any (s : ByteArray) (hs : s.size ≤ 1000000) (w : World) (hE : Errs w) :
    Calls Tryz.prog 96 #[.string s, .int .i64 10, .int .i64 64] w fun e w' => (∃ err, e = .returned (.tuple #[.int .i64 (intP s.data.toList), err])) ∧ Below w.heap.size w w' := by
  obtain ⟨⟨evs, hs1, hs2⟩, ⟨evr, hr1, hr2⟩⟩ := hE
  unfold intP
  cases h : Lib.parseIntB 64 s.data.toList with
  | ok v =>
    refine (Tryz.strconv_ParseInt_10_at64_ok s (by omega) v h w).mono ?_
    rintro e w' ⟨rfl, hw⟩
    refine ⟨⟨_, rfl⟩, ?_⟩
    rcases hw with rfl | ⟨t, rfl⟩
    · exact Below.refl _ _
    · exact Lib.bytesWorld_below _ _ _
  | range =>
    refine (Tryz.strconv_ParseInt_10_at64_range s (by omega) h evr w hr1 hr2).mono ?_
    rintro e w' ⟨N, rfl, -, -, hb⟩
    exact ⟨⟨_, rfl⟩, hb⟩
  | _ =>
    refine (Tryz.strconv_ParseInt_10_at64_syntax s (by omega) h evs w hs1 hs2).mono ?_
    rintro e w' ⟨N, rfl, -, -, hb⟩
    exact ⟨⟨_, rfl⟩, hb⟩
set_option maxRecDepth 100000 in
set_option maxHeartbeats 4000000 in
theorem word_plain (s : ByteArray) (hs : s.size ≤ 1000000) (w : World) (hB : Base w) (h35 : s.data.toList.head? ≠ some 35) (h34 : s.data.toList.head? ≠ some 34) :
    Calls Tryz.prog 69 #[.string s] w fun e w' => e = .returned (atomV (wordP s.data.toList)) ∧ Below w.heap.size w w' := by
  have HP0 : ∀ W, Calls Tryz.prog 67 #[.string s, .string ⟨#[35]⟩] W fun e w' => e = .returned (.bool false) ∧ w' = W := fun W => by
    have h := Tryz.strings_HasPrefix s ⟨#[35]⟩ W
    rw [show (⟨#[35]⟩ : ByteArray).data.toList = [35] from rfl, head_pre, decide_eq_false h35] at h
    exact h
  have HP1 : ∀ W, Calls Tryz.prog 67 #[.string s, .string ⟨#[34]⟩] W fun e w' => e = .returned (.bool false) ∧ w' = W := fun W => by
    have h := Tryz.strings_HasPrefix s ⟨#[34]⟩ W
    rw [show (⟨#[34]⟩ : ByteArray).data.toList = [34] from rfl, head_pre, decide_eq_false h34] at h
    exact h
  have HQ := Lib.hid HP0
  have HR := Lib.hid HP1
  by_cases hn : s = ⟨#[110, 105, 108]⟩
  · have hW : wordP s.data.toList = zeroT := by unfold wordP; rw [if_neg h35, if_neg h34, if_pos (by rw [hn])]
    have hA : atomV (wordP s.data.toList) = .agg #[.int .i64 0, .int .i64 0, .float .f64 0, .string ⟨#[]⟩, .slice none 0 0] := by rw [hW]; rfl
    rw [hA]
    have HX : Hid ((v5 w 0).heap[w.heap.size]? = some (.cells #[.int .i64 0, .int .i64 0, .float .f64 0, .string ⟨#[]⟩, .slice none 0 0] 26 (0, 0))) := heap_alloc_new _ _
    have HB1 : Hid (Below w.heap.size w (v5 w 0)) := (Below.refl _ _).alloc (Nat.le_refl _) _
    clear hA hW HP0 HP1 h35 h34 hB
    subst hn
    go_enter Tryz.func69, Tryz.ntmps69
    go_wp2_with (first
      | (go_at_call 67; first | (refine (HQ.out _).mono ?_; rintro e w1 ⟨rfl, rfl⟩) | (refine (HR.out _).mono ?_; rintro e w1 ⟨rfl, rfl⟩))
      | fail)
    exact bodyPost_ret (results_row1 (P := Tryz.prog) rfl _ _ w.heap.size 26 _ (0, 0) _ rfl HX.out Tryz.underlying26 rfl rfl) rfl ⟨rfl, HB1.out⟩
  · have hne := beq_toListBytes s ⟨#[110, 105, 108]⟩
    have hne2 := ba_beq s ⟨#[110, 105, 108]⟩
    rw [decide_eq_false hn] at hne2
    rw [hne2, toList_mk3 [110, 105, 108]] at hne
    have hne3 := hne.symm
    have hW : wordP s.data.toList = .node 1 (intP s.data.toList) 0 ⟨#[]⟩ [] := by
      unfold wordP
      rw [if_neg h35, if_neg h34, if_neg]
      intro h
      exact hn (by rw [← ba_data' s, h])
    have hA : atomV (wordP s.data.toList) = .agg #[.int .i64 1, .int .i64 (intP s.data.toList), .float .f64 0, .string ⟨#[]⟩, .slice none 0 0] := by rw [hW]; rfl
    rw [hA]
    have HX : Hid ((v5 w 1).heap[w.heap.size]? = some (.cells #[.int .i64 1, .int .i64 0, .float .f64 0, .string ⟨#[]⟩, .slice none 0 0] 26 (0, 0))) := heap_alloc_new _ _
    have HB1 : Hid (Below w.heap.size w (v5 w 1)) := (Below.refl _ _).alloc (Nat.le_refl _) _
    have HPI := Lib.hid (pint_any s hs _ (hB.later HB1.out).errs)
    generalize intP s.data.toList = n at *
    clear hA hW HP0 HP1 h35 h34 hB hn hne hne2
    go_enter Tryz.func69, Tryz.ntmps69
    go_wp2_with (first
      | (go_at_call 67; first | (refine (HQ.out _).mono ?_; rintro e w1 ⟨rfl, rfl⟩) | (refine (HR.out _).mono ?_; rintro e w1 ⟨rfl, rfl⟩))
      | fail)
    refine HPI.out.mono ?_
    rintro e w2 ⟨⟨err, rfl⟩, hb2⟩
    have HB2 := Lib.hid (HB1.out.trans (hb2.mono HB1.out.size))
    have HX2 := Lib.hid ((hb2.block _ (lt_of_heap HX.out)).trans HX.out)
    have hr2 := lt_of_heap HX2.out
    have hc0 := cellAt HX2.out 0 (v := .int .i64 1) rfl
    have hc1 := cellAt HX2.out 1 (v := .int .i64 0) rfl
    have hc2 := cellAt HX2.out 2 (v := .float .f64 0) rfl
    have hc3 := cellAt HX2.out 3 (v := .string ⟨#[]⟩) rfl
    have hc4 := cellAt HX2.out 4 (v := .slice none 0 0) rfl
    have hf0 := freeAt HX2.out 0
    have hf1 := freeAt HX2.out 1
    have hf2 := freeAt HX2.out 2
    have hf3 := freeAt HX2.out 3
    have hf4 := freeAt HX2.out 4
    clear hb2 HPI
    go_wp2
    refine bodyPost_ret (results_row1 (P := Tryz.prog) rfl _ _ w.heap.size 26 _ (0, 0) _ rfl (set5 (heap_store HX2.out 1 (.int .i64 n)) rfl _ _ _ _ _) Tryz.underlying26 rfl rfl) rfl ⟨rfl, bel5 (HB2.out.setCell (Nat.le_refl _) _) (Nat.le_refl _) _ _ _ _ _⟩
theorem word_any (s : ByteArray) (hs : s.size ≤ 1000000) (w : World) (hB : Base w) :
    Calls Tryz.prog 69 #[.string s] w fun e w' => e = .returned (atomV (wordP s.data.toList)) ∧ Below w.heap.size w w' := by
  by_cases h35 : s.data.toList.head? = some 35
  · exact word_num s hs w hB h35
  by_cases h34 : s.data.toList.head? = some 34
  · exact word_quoted s hs w hB h34
  · exact word_plain s hs w hB h35 h34
abbrev cutB : ByteArray := ⟨#[32, 93]⟩
set_option maxRecDepth 1000000 in
set_option maxHeartbeats 8000000 in
theorem irune_err (w : World) :
    Calls Tryz.prog 100 #[.string cutB, .int .i32 65533] w fun e w' => e = .returned (.int .i64 (-1)) ∧ Below w.heap.size w w' := by
  go_enter Tryz.func100, Tryz.ntmps100
  go_wp2_with fail
  go_loopg [5, 6] 2 (fun g _ _ wx => ∃ i : Nat, i + g = 2 ∧ wx = w.iter cutB i)
  case atStart => exact ⟨0, rfl, rfl⟩
  case round =>
    obtain ⟨i, hig, rfl⟩ := hrel
    cases gk with
    | zero =>
      obtain rfl : i = 2 := by omega
      have hnx := run_next_end (P := Tryz.prog) w cutB 2
      have h2 : ¬ 2 < cutB.size := by decide
      go_wp2
      go_ret
      exact ⟨rfl, (Below.refl _ _).alloc (Nat.le_refl _) _⟩
    | succ g =>
      have hi : i < cutB.size := by show i < 2; omega
      have ha : (cutB[i]'hi).toNat < 128 := by
        have : i = 0 ∨ i = 1 := by omega
        rcases this with rfl | rfl
        · show (32 : UInt8).toNat < 128; decide
        · show (93 : UInt8).toNat < 128; decide
      have hnx := fun ty => run_next_ascii (P := Tryz.prog) w cutB i ty hi ha
      generalize cutB[i]'hi = x at *
      have hx : (((x.toNat : Nat) : Int) == 65533) = false := by rw [beq_eq_false_iff_ne]; omega
      go_wp2
      go_roundg g
      case measure => omega
      case rel => exact ⟨i + 1, by omega, rfl⟩
set_option maxRecDepth 1000000 in
set_option maxHeartbeats 8000000 in
theorem irune_gen (c : ByteArray) (hc : c.size = 2) (hc1 : ∀ h : 1 < c.size, c[1]'h = 93) (hce : (c.extract 2 c.size).data.toList = []) (r : Int) (h1 : 128 ≤ r) (h2 : r ≤ 2147483647) (h3 : r ≠ 65533) (w : World) :
    Calls Tryz.prog 100 #[.string c, .int .i32 r] w fun e w' => e = .returned (.int .i64 (-1)) ∧ Below w.heap.size w w' := by
  have hne : (r == 65533) = false := by rw [beq_eq_false_iff_ne]; exact h3
  by_cases hv : Lib.validRune r = true
  · have hvr := fun W => Tryz.utf8_ValidRune r W
    rw [hv] at hvr
    have hvv : Utf8.valid r = true := by rw [validRune_eq]; exact hv
    obtain ⟨he1, he2, he3⟩ := encode_facts r hvv h1
    have hen := fun W => run_convert_int_string (P := Tryz.prog) W 21 9 .i32 r (by kernel_rfl) Tryz.underlying9
    generalize Utf8.encode r = rs at *
    have HVR := Lib.hid hvr
    have HCE := Lib.hid hce
    have hcz : 2 ≤ (c.size : Int) := by omega
    have hcy : (c.size : Int) ≤ 2 := by omega
    have h12 : 1 < c.size := by omega
    have h12' : (1 : Int) < (c.size : Int) := by omega
    clear hce hvr hvv hv hc
    go_enter Tryz.func100, Tryz.ntmps100
    go_wp2_with fail
    refine (HVR.out _).mono ?_
    rintro e w1 ⟨rfl, rfl⟩
    go_wp2_with fail
    go_step3
    go_wp2_with fail
    go_loop [9] (fun vi => vi = .int .i64 ((rs.size : Int) - 1)) (fun _ => 0)
    case atStart => rfl
    case round =>
      subst hrel
      by_cases hsz : rs.size = 2
      · have hlt : 1 < rs.size := by omega
        have hx : 128 ≤ (rs[1]'hlt).toNat := by
          have h := he3 (by omega)
          simp only [hsz] at h
          exact h
        obtain ⟨x, hxe⟩ : ∃ x, x = rs[1]'hlt := ⟨_, rfl⟩
        rw [← hxe] at hx
        have hxe2 := hxe.symm
        have hi1 : (rs.size : Int) - 1 = 1 := by omega
        have h93' : ((93 : Int) != (x.toNat : Int)) = true := by rw [bne_iff_ne]; omega
        have hI : ∀ W, Calls Tryz.prog 125 #[.string (c.extract 2 c.size), .int .u8 (x.toNat : Int)] W fun e w' => e = .returned (.int .i64 (-1)) ∧ w' = W := fun W => by
          have h := Tryz.strings_IndexByte (c.extract 2 c.size) (x.toNat : Int) W
          rw [HCE.out] at h
          exact h
        have HI := Lib.hid hI
        have HB0 : Hid (Below w1.heap.size w1 w1.drew) := (Below.refl _ _).drew
        have hsl : ∀ W, (Instr.slice 9 (.string c) (some (.int .i64 2)) none none).run Tryz.prog W = .ok (.string (c.extract 2 c.size)) W := fun W => run_slice_string_l W 9 c Tryz.underlying9 .i64 2 (by decide) hcz
        have hsl2 : ∀ W, (Instr.sliceAt 9 (.string c) (some (.int .i64 2)) none none).run Tryz.prog W = .ok (.string (c.extract 2 c.size)) W := fun W => by rw [run_sliceAt_string W 9 _ _ _ _ Tryz.underlying9]; exact hsl W
        have hsum : IntKind.i64.wrap (1 + 1) = 2 := by decide
        have hsum2 : IntKind.i64.wrap 2 = 2 := by decide
        rw [hi1]
        clear he1 he2 he3 hxe hI hne h3
        go_wp2_with fail
        go_step3
        go_wp2_with fail
        go_region
        all_goals
          generalize w1.drew = wd at *
          have HB1 : Hid (Below wd.heap.size wd wd.drew) := (Below.refl _ _).drew
          have HB11 : Hid (Below wd.heap.size wd wd) := Below.refl _ _
          go_wp2_with fail
          go_region_held3 (fun w' => Hid (Below w1.heap.size w1 w')) (exact HB0.out.trans ((show Hid (Below wd.heap.size wd _) by assumption).out.mono HB0.out.size))
            (first
            | (go_at_call 125; refine (HI.out _).mono ?_; rintro e w4 ⟨rfl, rfl⟩)
            | fail)
          all_goals
            go_wp2_with fail
            try rw [Exit.noGoto_ret]
            simp (config := { zetaDelta := true }) only [Exit.inBlock, Exit.then, Exit.noGoto]
            go_ret
            exact ⟨rfl, HB0.out.trans (HB1.out.mono HB0.out.size)⟩
      · have hge : 2 ≤ (rs.size : Int) - 1 := by omega
        go_wp2
        try rw [Exit.noGoto_ret]
        go_ret
        exact ⟨rfl, Below.refl _ _⟩
  · have hvr := fun W => Tryz.utf8_ValidRune r W
    have hvf : Lib.validRune r = false := by simpa using hv
    rw [hvf] at hvr
    go_enter Tryz.func100, Tryz.ntmps100
    go_wp2_with fail
    refine (hvr _).mono ?_
    rintro e w1 ⟨rfl, rfl⟩
    go_wp2
    go_ret
    exact ⟨rfl, Below.refl _ _⟩
theorem irune_high (r : Int) (h1 : 128 ≤ r) (h2 : r ≤ 2147483647) (w : World) :
    Calls Tryz.prog 100 #[.string cutB, .int .i32 r] w fun e w' => e = .returned (.int .i64 (-1)) ∧ Below w.heap.size w w' := by
  by_cases h3 : r = 65533
  · subst h3; exact irune_err w
  · exact irune_gen cutB rfl (fun _ => rfl) rfl r h1 h2 h3 w
def ixW (s : List UInt8) : Int := if wN s < s.length then (wN s : Int) else -1
theorem indexAny_ix (s : List UInt8) : Lib.indexAny s [32, 93] = ixW s := by
  unfold ixW wN
  induction s with
  | nil => rfl
  | cons c l ih =>
    rw [Lib.indexAny, List.findIdx_cons, List.length_cons]
    have hc : ([32, 93] : List UInt8).contains c = stopC c := by
      unfold stopC
      rw [Bool.eq_iff_iff]
      simp [List.contains_cons]
    rw [hc, ih]
    generalize List.findIdx stopC l = k at *
    generalize l.length = n at *
    cases stopC c
    · simp only [Bool.false_eq_true, if_false, cond_false]
      by_cases h : k < n
      · have h1 : ¬ ((k : Int) == -1) = true := by intro e; have := beq_iff_eq.1 e; omega
        rw [if_pos h, if_neg h1, if_pos (by omega)]; omega
      · rw [if_neg h, if_pos (by rfl), if_neg (by omega)]
    · simp
theorem zv140 (w : World) : (zeroValue 140).run Tryz.prog w = .ok (.agg (Array.replicate 256 (.bool false))) w := by kernel_rfl
def NoStop (s : List UInt8) (i : Nat) : Prop := ∀ (j : Nat) b, j < i → s[j]? = some b → stopC b = false
theorem ix_hit {s : List UInt8} {i : Nat} {x : UInt8} (hn : NoStop s i) (hx : s[i]? = some x) (hc : stopC x = true) : ixW s = i := by
  have hlt := (List.getElem?_eq_some_iff.1 hx).1
  have h : wN s = i := by
    unfold wN
    rw [List.findIdx_eq hlt]
    refine ⟨?_, fun j hj => ?_⟩
    · rw [← (List.getElem?_eq_some_iff.1 hx).2] at hc; exact hc
    · have := hn j _ hj (List.getElem?_eq_getElem (by omega))
      rw [this]
  unfold ixW
  rw [h, if_pos hlt]
theorem ix_none {s : List UInt8} (hn : NoStop s s.length) : ixW s = -1 := by
  have h : wN s = s.length := by
    unfold wN
    rw [List.findIdx_eq_length]
    intro x hx
    obtain ⟨j, hj, rfl⟩ := List.mem_iff_getElem.1 hx
    rw [hn j _ hj (List.getElem?_eq_getElem hj)]
  unfold ixW
  rw [h, if_neg (Nat.lt_irrefl _)]
theorem below_iterAt {w1 W : World} (h : Below w1.heap.size w1 W) (s : ByteArray) (p : Nat) : Below w1.heap.size w1 (W.iterAt w1.heap.size s p) :=
  ⟨h.os, h.tape, h.output, by show w1.heap.size ≤ (W.heap.setIfInBounds _ _).size; rw [Array.size_setIfInBounds]; exact h.size, fun k hk => by
    show (W.heap.setIfInBounds _ _)[k]? = _
    rw [Array.getElem?_setIfInBounds_ne (by omega)]
    exact h.block k hk⟩
theorem ib_stop (x : UInt8) : stopC x = decide (0 ≤ Lib.indexByte [32, 93] x) := by
  by_cases h1 : x = 32
  · subst h1; rfl
  · by_cases h2 : x = 93
    · subst h2; rfl
    · have hs : stopC x = false := by
        unfold stopC
        rw [Bool.or_eq_false_iff, beq_eq_false_iff_ne, beq_eq_false_iff_ne]
        exact ⟨h1, h2⟩
      have h3 := Lib.contains_iff_indexByte [32, 93] x
      rw [hs, ← h3]
      simp [h1, h2]
theorem decode_span (s : ByteArray) (i : Nat) (h : i < s.size) (ha : 128 ≤ (s[i]'h).toNat) : i + (Utf8.decode s i).2 ≤ s.size ∧ ∀ k, k < (Utf8.decode s i).2 → 128 ≤ (s.get! (i + k)).toNat := by
  have hn : ¬ (s[i]'h).toNat < 128 := by omega
  have h0 : s.get! (i + 0) = s[i]'h := by
    show s.get! i = _
    simp [ByteArray.get!, getElem!_pos, h]
    rfl
  have one : i + 1 ≤ s.size ∧ ∀ k, k < 1 → 128 ≤ (s.get! (i + k)).toNat := ⟨by omega, fun k hk => by
    obtain rfl : k = 0 := by omega
    rw [h0]; exact ha⟩
  have h0' : 128 ≤ (s.get! (i + 0)).toNat := by rw [h0]; exact ha
  simp only [Utf8.decode, h0, hn, if_false]
  split
  · rename_i hc
    simp only [Bool.and_eq_true, decide_eq_true_eq, beq_iff_eq] at hc
    split
    · refine ⟨by simp only []; omega, fun k hk => ?_⟩
      simp only [] at hk
      have : k = 0 ∨ k = 1 := by omega
      rcases this with rfl | rfl
      · exact h0'
      · omega
    · exact one
  · split
    · rename_i hc
      simp only [Bool.and_eq_true, decide_eq_true_eq, beq_iff_eq] at hc
      split
      · refine ⟨by simp only []; omega, fun k hk => ?_⟩
        simp only [] at hk
        have : k = 0 ∨ k = 1 ∨ k = 2 := by omega
        rcases this with rfl | rfl | rfl
        · exact h0'
        · omega
        · omega
      · exact one
    · split
      · rename_i hc
        simp only [Bool.and_eq_true, decide_eq_true_eq, beq_iff_eq] at hc
        split
        · refine ⟨by simp only []; omega, fun k hk => ?_⟩
          simp only [] at hk
          have : k = 0 ∨ k = 1 ∨ k = 2 ∨ k = 3 := by omega
          rcases this with rfl | rfl | rfl | rfl
          · exact h0'
          · omega
          · omega
          · omega
        · exact one
      · exact one
set_option maxRecDepth 100000 in
set_option maxHeartbeats 4000000 in
theorem idx_short (s : ByteArray) (hs : s.size ≤ 8) (w : World) :
    Calls Tryz.prog 68 #[.string s, .string cutB] w fun e w' => e = .returned (.int .i64 (ixW s.data.toList)) ∧ Below w.heap.size w w' := by
  have h8z : decide ((8 : Int) < (s.size : Int)) = false := decide_eq_false (by omega)
  obtain ⟨R, hR⟩ : ∃ R, R = ixW s.data.toList := ⟨_, rfl⟩
  rw [← hR]
  have HR := Lib.hid hR
  have HU := Lib.hid (Tryz.strings_shouldUseASCIISet (s.size : Int) w)
  rw [h8z] at HU
  clear hR
  go_enter Tryz.func68, Tryz.ntmps68
  go_wp2_with fail
  refine HU.out.mono ?_
  rintro e w1 ⟨rfl, rfl⟩
  go_wp2_with fail
  go_loopg [9, 10] s.size (fun g _ _ wx => ∃ (i : Nat) (W : World), i ≤ s.size ∧ s.size ≤ i + g ∧ wx = W ∧ Hid (NoStop s.data.toList i) ∧ Hid (W.heap[w1.heap.size]? = some (.stringIter s i)) ∧ Hid (Below w1.heap.size w1 W))
  case atStart => exact ⟨0, _, by omega, by omega, rfl, fun _ _ h => absurd h (Nat.not_lt_zero _), heap_alloc_new _ _, (Below.refl _ _).alloc (Nat.le_refl _) _⟩
  case round =>
    obtain ⟨i, W, hi, hig, rfl, HN, HI, HB⟩ := hrel
    by_cases hlt : i < s.size
    · obtain ⟨g, rfl⟩ : ∃ g, gk = g + 1 := ⟨gk - 1, by omega⟩
      have hnx := fun ty => Lib.run_next_any_at (P := Tryz.prog) wr w1.heap.size s i ty HI.out hlt
      have hHI := Lib.iterAt_heap wr w1.heap.size s i (i + (Utf8.decode s i).2) HI.out
      have hBI : Below w1.heap.size w1 (wr.iterAt w1.heap.size s (i + (Utf8.decode s i).2)) := below_iterAt HB.out s _
      have hnext : ∀ k, i ≤ k → (∀ j, i ≤ j → j < k → ∀ b, s.data.toList[j]? = some b → stopC b = false) → NoStop s.data.toList k := fun k hk h j b hj hb => by
        rcases Nat.lt_or_ge j i with hlt | hge
        · exact HN.out j b hlt hb
        · exact h j hge hj b hb
      have HX := Lib.hid hnext
      by_cases hlow : (s[i]'hlt).toNat < 128
      · have hd := decode_ascii s i hlt hlow
        have hxg : s.data.toList[i]? = some (s[i]'hlt) := Lib.data_getElem? s i hlt
        rw [hd] at hnx hHI hBI
        generalize s[i]'hlt = x at *
        have HXG := Lib.hid hxg
        have HHI := Lib.hid hHI
        have HBI := Lib.hid hBI
        have HIR : Hid (∀ W, Calls Tryz.prog 100 #[.string cutB, .int .i32 (x.toNat : Int)] W fun e w' => e = .returned (.int .i64 (Lib.indexByte [32, 93] x)) ∧ w' = W) := fun W => by
          have h := Tryz.strings_IndexRune_ascii cutB (x.toNat : Int) W (by omega) (by omega)
          rw [show ((x.toNat : Int)).toNat.toUInt8 = x by simp] at h
          exact h
        have hib := ib_stop x
        clear hd hxg hHI hBI hnext
        cases hst : stopC x
        · rw [hst] at hib
          have hneg : Lib.indexByte [32, 93] x < 0 := by have := of_decide_eq_false hib.symm; omega
          clear hib
          generalize Lib.indexByte [32, 93] x = q at *
          have hq : ¬ 0 ≤ q := by omega
          go_wp2_with fail
          refine (HIR.out _).mono ?_
          rintro e w3 ⟨rfl, rfl⟩
          go_wp2_with fail
          go_roundg g
          case measure => omega
          case rel =>
            refine ⟨i + 1, _, by omega, by omega, rfl, ?_, HHI.out, HBI.out⟩
            exact HX.out (i + 1) (by omega) (fun j h1 h2 b hb => by
              have : j = i := by omega
              subst this
              rw [HXG.out] at hb
              cases hb; exact hst)
        · rw [hst] at hib
          have hneg : 0 ≤ Lib.indexByte [32, 93] x := of_decide_eq_true hib.symm
          clear hib
          generalize Lib.indexByte [32, 93] x = q at *
          go_wp2_with fail
          refine (HIR.out _).mono ?_
          rintro e w3 ⟨rfl, rfl⟩
          go_wp2_with fail
          go_ret
          refine ⟨?_, HBI.out⟩
          rw [HR.out, ix_hit HN.out HXG.out hst]; rfl
      · have hge : 128 ≤ (s[i]'hlt).toNat := by omega
        obtain ⟨hc1, hc2⟩ := decode_high s i hlt hge
        have hc3 := decode_le s i
        obtain ⟨hs1, hs2⟩ := decode_span s i hlt hge
        have HHI := Lib.hid hHI
        have HBI := Lib.hid hBI
        have HS2 := Lib.hid hs2
        clear hHI hBI hnext hs2
        generalize Utf8.decode s i = d at *
        obtain ⟨c, wd⟩ := d
        simp only [] at *
        have HIR : Hid (∀ W, Calls Tryz.prog 100 #[.string cutB, .int .i32 (c : Int)] W fun e w' => e = .returned (.int .i64 (-1)) ∧ Below W.heap.size W w') := fun W => irune_high (c : Int) (by omega) (by omega) W
        go_wp2_with fail
        refine (HIR.out _).mono ?_
        rintro e w3 ⟨rfl, hb3⟩
        have HB3 := Lib.hid (HBI.out.trans (hb3.mono HBI.out.size))
        have HH3 := Lib.hid ((hb3.block _ (lt_of_heap HHI.out)).trans HHI.out)
        clear hb3
        go_wp2_with fail
        go_roundg g
        case measure => omega
        case rel =>
          refine ⟨i + wd, _, by omega, by omega, rfl, ?_, HH3.out, HB3.out⟩
          exact HX.out (i + wd) (by omega) (fun j h1 h2 b hb => by
            have h := HS2.out (j - i) (by omega)
            rw [show i + (j - i) = j by omega] at h
            have hj : j < s.size := by omega
            have hg : s.get! j = b := by
              have h3 := Lib.data_getElem? s j hj
              rw [hb] at h3
              have h4 : s.get! j = s[j]'hj := by
                simp [ByteArray.get!, getElem!_pos, hj]; rfl
              rw [h4]; exact (Option.some.inj h3).symm
            rw [hg] at h
            unfold stopC
            rw [Bool.or_eq_false_iff, beq_eq_false_iff_ne, beq_eq_false_iff_ne]
            exact ⟨fun e => by rw [e] at h; exact absurd h (by decide), fun e => by rw [e] at h; exact absurd h (by decide)⟩)
    · obtain rfl : i = s.size := by omega
      have hnx := fun ty => Lib.run_next_end_at (P := Tryz.prog) wr w1.heap.size s s.size ty HI.out hlt
      go_wp2
      go_ret
      refine ⟨?_, HB.out⟩
      rw [HR.out, ix_none (by rw [← Lib.size_eq]; exact HN.out)]; rfl
theorem idx_any (s : ByteArray) (hs : s.size ≤ 1000000) (w : World) :
    Calls Tryz.prog 68 #[.string s, .string cutB] w fun e w' => e = .returned (.int .i64 (ixW s.data.toList)) ∧ Below w.heap.size w w' := by
  by_cases h : s.size ≤ 8
  · exact idx_short s h w
  · refine (Tryz.strings_IndexAny_long zv140 s cutB w (by decide) (by omega) (by omega) (by decide) (fun j b hj => by
      match j with
      | 0 => cases hj; decide
      | 1 => cases hj; decide
      | j + 2 => cases hj)).mono ?_
    rintro e w' ⟨rfl, rfl⟩
    refine ⟨?_, ((Below.refl _ _).alloc (Nat.le_refl _) _).alloc (by simp) _⟩
    rw [← indexAny_ix]
end Go.Proofs.YtpijpeocdlnhiaaGreatDoor
