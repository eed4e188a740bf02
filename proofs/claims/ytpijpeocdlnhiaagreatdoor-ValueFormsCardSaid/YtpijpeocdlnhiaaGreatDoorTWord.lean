/- value.word: the payload with a text that is no list. -/
import Derived.Test.YtpijpeocdlnhiaaGreatDoorTNumP
import Derived.Test.YtpijpeocdlnhiaaGreatDoorTPlainC
import Derived.Test.YtpijpeocdlnhiaaGreatDoorBlank
import Derived.Laws.ResultCell
import Derived.Laws.Rows
namespace Go.Proofs.YtpijpeocdlnhiaaGreatDoor
set_option linter.unusedVariables false
set_option linter.unusedSimpArgs false
open Go.RowKit

theorem results_row1 {P : Program} {fn : Func} {p : Tmp} {ty : TypeId} (h : fn.results = #[.cell p ty]) (tmps : Array Value) (w : World) (g : Nat) (t : TypeId) (cs : Array Value) (fr : Nat × Nat) (d : TypeDesc)
    (hp : tmps.getD p undef = .pointer (some ⟨g, 0, none⟩)) (hg : w.heap[g]? = some (.cells cs t fr))
    (hu : P.underlying ty = some d) (hd : (match d with | .struct _ | .array _ _ => true | _ => false) = true) (hi : (P.info? ty).map (·.size) = some cs.size) :
    (results fn tmps).run P w = .ok (.agg cs) w := results_cell_row h tmps w g t cs fr d hp hg hu hd hi
theorem results_row_tmp {P : Program} {fn : Func} {p u : Tmp} {ty : TypeId} (h : fn.results = #[.cell p ty, .tmp u]) (tmps : Array Value) (w : World) (g : Nat) (t : TypeId) (cs : Array Value) (fr : Nat × Nat) (d : TypeDesc)
    (hp : tmps.getD p undef = .pointer (some ⟨g, 0, none⟩)) (hg : w.heap[g]? = some (.cells cs t fr))
    (hu : P.underlying ty = some d) (hd : (match d with | .struct _ | .array _ _ => true | _ => false) = true) (hi : (P.info? ty).map (·.size) = some cs.size) :
    (results fn tmps).run P w = .ok (.tuple #[.agg cs, tmps.getD u undef]) w := by
  rw [results_cell_tmp h, hp]
  simp [asAddr, run_loadVar_row w g t ty cs fr d hg hu hd hi, Result.andThen]

/-- A payload without a list, as a value. -/
def atomV (t : VT) : Value := .agg #[.int .i64 t.k, .int .i64 t.n, .float .f64 t.f, .string t.s, .slice none 0 0]
/-- What the readers of texts lean on: the errors and the table lie where the program laid them. -/
structure Base (w : World) : Prop where
  errs : Errs w
  tab : w.cell? ⟨9, 15, none⟩ = some (.int .u8 4)
theorem Base.later {w w' : World} (h : Base w) (hb : Below w.heap.size w w') : Base w' :=
  ⟨h.errs.later hb, (hb.cell (p := ⟨9, 15, none⟩) (World.block_lt_of_cell? w _ h.tab)).trans h.tab⟩
theorem ex_list (s : ByteArray) (i j : Nat) : (s.extract i j).data.toList = (s.data.toList.drop i).take (j - i) := by
  rw [Lib.extract_eq]
abbrev v5 (w : World) (k : Int) : World := w.alloc (.cells #[.int .i64 k, .int .i64 0, .float .f64 0, .string ⟨#[]⟩, .slice none 0 0] 26)
theorem bs_of {s : ByteArray} {l : List UInt8} (h : s.data.toList = l) : s = ⟨l.toArray⟩ := by rw [← h, ba_data']
theorem set5 {w : World} {b : Nat} {cs : Array Value} {t : TypeId} (h : w.heap[b]? = some (.cells cs t (0, 0))) (hs : cs.size = 5) (x0 x1 x2 x3 x4 : Value) :
    (((((w.setCell ⟨b, 0, none⟩ x0).setCell ⟨b, 1, none⟩ x1).setCell ⟨b, 2, none⟩ x2).setCell ⟨b, 3, none⟩ x3).setCell ⟨b, 4, none⟩ x4).heap[b]? = some (.cells #[x0, x1, x2, x3, x4] t (0, 0)) :=
  setCells_same b t [x0, x1, x2, x3, x4] 0 w cs h (by simp [hs]) |>.trans (by
    congr 2
    apply Array.ext'
    have h5 : cs.toList.drop 5 = [] := List.drop_eq_nil_of_le (by simp [hs])
    simp [h5])
theorem bel5 {B : Nat} {w0 w : World} {b : Nat} (h : Below B w0 w) (hb : B ≤ b) (x0 x1 x2 x3 x4 : Value) :
    Below B w0 (((((w.setCell ⟨b, 0, none⟩ x0).setCell ⟨b, 1, none⟩ x1).setCell ⟨b, 2, none⟩ x2).setCell ⟨b, 3, none⟩ x3).setCell ⟨b, 4, none⟩ x4) :=
  ((((h.setCell hb _).setCell hb _).setCell hb _).setCell hb _).setCell hb _
set_option maxRecDepth 100000 in
set_option maxHeartbeats 4000000 in
theorem word_num (s : ByteArray) (hs : s.size ≤ 1000000) (w : World) (hB : Base w) (h35 : s.data.toList.head? = some 35) :
    Calls Tryz.prog 69 #[.string s] w fun e w' => e = .returned (atomV (wordP s.data.toList)) ∧ Below w.heap.size w w' := by
  have HP0 := fun W => Tryz.strings_HasPrefix s ⟨#[35]⟩ W
  have hpre : Lib.hasPrefix s.data.toList (⟨#[35]⟩ : ByteArray).data.toList = true := by
    cases hl : s.data.toList with
    | nil => rw [hl] at h35; cases h35
    | cons c r => rw [hl] at h35; cases h35; rfl
  rw [hpre] at HP0
  have HP := Lib.hid HP0
  have h1 : 1 ≤ s.size := by
    rw [Lib.size_eq]
    cases hl : s.data.toList with
    | nil => rw [hl] at h35; cases h35
    | cons c r => simp
  have hW : wordP s.data.toList = .node 2 0 (numParseF s.data.toList.tail) ⟨#[]⟩ [] := by unfold wordP; rw [if_pos h35]
  have hA : atomV (wordP s.data.toList) = .agg #[.int .i64 2, .int .i64 0, .float .f64 (numParseF s.data.toList.tail), .string ⟨#[]⟩, .slice none 0 0] := by rw [hW]; rfl
  have hx : (s.extract 1 s.size).data.toList = s.data.toList.tail := by
    rw [ex_list, List.drop_one, List.take_of_length_le]
    rw [List.length_tail, ← Lib.size_eq]; exact Nat.le_refl _
  have hxs : (s.extract 1 s.size).size ≤ 1000000 := by rw [Lib.size_eq, hx, List.length_tail, ← Lib.size_eq]; omega
  have HX : Hid ((v5 w 2).heap[w.heap.size]? = some (.cells #[.int .i64 2, .int .i64 0, .float .f64 0, .string ⟨#[]⟩, .slice none 0 0] 26 (0, 0))) := heap_alloc_new _ _
  have HB1 : Hid (Below w.heap.size w (v5 w 2)) := (Below.refl _ _).alloc (Nat.le_refl _) _
  have HNP := Lib.hid (nparse_any (s.extract 1 s.size) hxs _ (hB.later HB1.out).errs (hB.later HB1.out).tab)
  rw [hx] at HNP
  rw [hA]
  generalize numParseF s.data.toList.tail = F at *
  clear hA hW hpre hx hxs HP0 h35 hB
  go_enter Tryz.func69, Tryz.ntmps69
  go_wp2_with fail
  refine (HP.out _).mono ?_
  rintro e w1 ⟨rfl, rfl⟩
  go_wp2_with fail
  refine HNP.out.mono ?_
  rintro e w2 ⟨⟨ok, rfl⟩, hb2⟩
  have HB2 := Lib.hid (HB1.out.trans (hb2.mono HB1.out.size))
  have HX2 := Lib.hid ((hb2.block _ (lt_of_heap HX.out)).trans HX.out)
  have hr2 := lt_of_heap HX2.out
  have hc0 := cellAt HX2.out 0 (v := .int .i64 2) rfl
  have hc1 := cellAt HX2.out 1 (v := .int .i64 0) rfl
  have hc2 := cellAt HX2.out 2 (v := .float .f64 0) rfl
  have hc3 := cellAt HX2.out 3 (v := .string ⟨#[]⟩) rfl
  have hc4 := cellAt HX2.out 4 (v := .slice none 0 0) rfl
  have hf0 := freeAt HX2.out 0
  have hf1 := freeAt HX2.out 1
  have hf2 := freeAt HX2.out 2
  have hf3 := freeAt HX2.out 3
  have hf4 := freeAt HX2.out 4
  clear hb2 HNP
  go_wp2
  refine bodyPost_ret (results_row1 (P := Tryz.prog) rfl _ _ w.heap.size 26 _ (0, 0) _ rfl (set5 (heap_store HX2.out 2 (.float .f64 F)) rfl _ _ _ _ _) Tryz.underlying26 rfl rfl) rfl ⟨rfl, bel5 (HB2.out.setCell (Nat.le_refl _) _) (Nat.le_refl _) _ _ _ _ _⟩

theorem head_pre (l : List UInt8) (c : UInt8) : Lib.hasPrefix l [c] = decide (l.head? = some c) := by
  cases l with
  | nil => rfl
  | cons a r =>
    show ([c] : List UInt8).isPrefixOf (a :: r) = _
    by_cases h : a = c
    · subst h; simp [List.isPrefixOf]
    · have h2 : ¬ c = a := fun e => h e.symm
      simp [List.isPrefixOf, h, h2]
theorem unhexP_nil (l : List UInt8) (h : l.length ≤ 1) : unhexP l = [] := by
  match l with
  | [] => rfl
  | [a] => rfl
  | a :: b :: r => simp at h
set_option maxRecDepth 100000 in
set_option maxHeartbeats 4000000 in
theorem word_quoted (s : ByteArray) (hs : s.size ≤ 1000000) (w : World) (hB : Base w) (h34 : s.data.toList.head? = some 34) :
    Calls Tryz.prog 69 #[.string s] w fun e w' => e = .returned (atomV (wordP s.data.toList)) ∧ Below w.heap.size w w' := by
  have HP0 : ∀ W, Calls Tryz.prog 67 #[.string s, .string ⟨#[35]⟩] W fun e w' => e = .returned (.bool false) ∧ w' = W := fun W => by
    have h := Tryz.strings_HasPrefix s ⟨#[35]⟩ W
    rw [show (⟨#[35]⟩ : ByteArray).data.toList = [35] from rfl, head_pre, h34] at h
    exact h
  have HP1 : ∀ W, Calls Tryz.prog 67 #[.string s, .string ⟨#[34]⟩] W fun e w' => e = .returned (.bool true) ∧ w' = W := fun W => by
    have h := Tryz.strings_HasPrefix s ⟨#[34]⟩ W
    rw [show (⟨#[34]⟩ : ByteArray).data.toList = [34] from rfl, head_pre, h34] at h
    exact h
  have hW : wordP s.data.toList = .node 3 0 0 ⟨(unhexP (Lib.trimB s.data.toList 34)).toArray⟩ [] := by unfold wordP; rw [h34, if_neg (by decide), if_pos rfl]
  have hA : atomV (wordP s.data.toList) = .agg #[.int .i64 3, .int .i64 0, .float .f64 0, .string ⟨(unhexP (Lib.trimB s.data.toList 34)).toArray⟩, .slice none 0 0] := by rw [hW]; rfl
  have HTR0 := fun W => Tryz.strings_Trim_one s 34 (by decide) W (by omega)
  have htl := trimB_length s.data.toList 34
  rw [hA]
  rw [← Lib.size_eq] at htl
  generalize Lib.trimB s.data.toList 34 = tl at *
  obtain ⟨tr, htr⟩ : ∃ tr : ByteArray, tr = ⟨tl.toArray⟩ := ⟨_, rfl⟩
  have htr2 : tr.data.toList = tl := by rw [htr]
  have hts : tr.size ≤ 1000000 := by rw [Lib.size_eq, htr2]; omega
  simp only [← htr] at HTR0
  have HTR := Lib.hid HTR0
  have HQ := Lib.hid HP0
  have HR := Lib.hid HP1
  have HTL := Lib.hid htr2
  have HX : Hid ((v5 w 3).heap[w.heap.size]? = some (.cells #[.int .i64 3, .int .i64 0, .float .f64 0, .string ⟨#[]⟩, .slice none 0 0] 26 (0, 0))) := heap_alloc_new _ _
  have HB1 : Hid (Below w.heap.size w (v5 w 3)) := (Below.refl _ _).alloc (Nat.le_refl _) _
  have HBA := Lib.hid (hB.later HB1.out)
  have HB0 := Lib.hid hB
  obtain ⟨U, hU⟩ : ∃ U, U = unhexP tl := ⟨_, rfl⟩
  rw [← hU]
  have HU := Lib.hid hU
  clear hA hW HP0 HP1 h34 hB htr htr2 htl HTR0 hU
  go_enter Tryz.func69, Tryz.ntmps69
  go_wp2_with (first
    | (go_at_call 67; first | (refine (HQ.out _).mono ?_; rintro e w1 ⟨rfl, rfl⟩) | (refine (HR.out _).mono ?_; rintro e w1 ⟨rfl, rfl⟩))
    | fail)
  refine (HTR.out _).mono ?_
  rintro e w2 ⟨rfl, hw2⟩
  have HB2 : Hid (Below w.heap.size w w2) := by
    rcases hw2 with rfl | rfl
    · exact HB1.out
    · exact HB1.out.drew
  have HX2 : Hid (w2.heap[w.heap.size]? = some (.cells #[.int .i64 3, .int .i64 0, .float .f64 0, .string ⟨#[]⟩, .slice none 0 0] 26 (0, 0))) := by
    rcases hw2 with rfl | rfl
    · exact HX.out
    · exact HX.out
  have HBA2 : Hid (Base w2) := by
    rcases hw2 with rfl | rfl
    · exact HBA.out
    · exact HBA.out.later ((Below.refl _ _).drew)
  clear hw2 HX HB1 HBA HTR HQ HR
  go_wp2_with fail
  go_loopw [0] (fun vs w' => ∃ (sr sd : ByteArray), vs = .string sr ∧ sr.size + sd.size ≤ 1000000 ∧ Hid (U = sd.data.toList ++ unhexP sr.data.toList) ∧ Hid (w'.heap[w.heap.size]? = some (.cells #[.int .i64 3, .int .i64 0, .float .f64 0, .string sd, .slice none 0 0] 26 (0, 0))) ∧ Hid (Below w.heap.size w w') ∧ Hid (Base w')) (fun vs _ => match vs with | .string s => s.size | _ => 0)
  case atStart => exact ⟨tr, ⟨#[]⟩, rfl, by show tr.size + 0 ≤ _; omega, by rw [Hid, HTL.out, HU.out]; rfl, HX2.out, HB2.out, HBA2.out⟩
  case round =>
    obtain ⟨sr, sd, rfl, hsz, HV, HN, HBE, HBS⟩ := hrel
    have hr2 := lt_of_heap HN.out
    have hc0 := cellAt HN.out 0 (v := .int .i64 3) rfl
    have hc1 := cellAt HN.out 1 (v := .int .i64 0) rfl
    have hc2 := cellAt HN.out 2 (v := .float .f64 0) rfl
    have hc3 := cellAt HN.out 3 (v := .string sd) rfl
    have hc4 := cellAt HN.out 4 (v := .slice none 0 0) rfl
    have hf0 := freeAt HN.out 0
    have hf1 := freeAt HN.out 1
    have hf2 := freeAt HN.out 2
    have hf3 := freeAt HN.out 3
    have hf4 := freeAt HN.out 4
    by_cases hgt : 1 < sr.size
    · obtain ⟨a, b, r, hr⟩ : ∃ a b r, sr.data.toList = a :: b :: r := by
        have hl : sr.data.toList.length = sr.size := by rw [← Lib.size_eq]
        match hm : sr.data.toList with
        | [] => rw [hm] at hl; simp at hl; omega
        | [a] => rw [hm] at hl; simp at hl; omega
        | a :: b :: r => exact ⟨a, b, r, rfl⟩
      have hx1 : (sr.extract 0 2).data.toList = [a, b] := by rw [ex_list, hr]; rfl
      have hx1s : (sr.extract 0 2).size = 2 := by rw [Lib.size_eq, hx1]; rfl
      have hx2 : (sr.extract 2 sr.size).data.toList = r := by
        rw [ex_list, hr, List.drop_succ_cons, List.drop_succ_cons, List.drop_zero, List.take_of_length_le]
        have : sr.size = (a :: b :: r).length := by rw [Lib.size_eq, hr]
        simp at this; omega
      have hx2s : (sr.extract 2 sr.size).size + 2 = sr.size := by
        have : sr.size = (a :: b :: r).length := by rw [Lib.size_eq, hr]
        rw [Lib.size_eq, hx2, this]; rfl
      have HPU := Lib.hid (pu16_8 (sr.extract 0 2) (by omega) wr HBS.out.errs)
      rw [hx1] at HPU
      have hple := puV_le 255 [a, b]
      have HVV : Hid (U = sd.data.toList ++ UInt8.ofNat (puV 255 [a, b]) :: unhexP r) := by rw [Hid, HV.out, hr, unhexP]
      have HX2 := Lib.hid hx2
      clear HV hr hx1 hx1s hx2
      go_wp2_with fail
      refine HPU.out.mono ?_
      rintro e w3 ⟨⟨err, rfl, -⟩, hb3⟩
      generalize puV 255 [a, b] = x at *
      have HB3 := Lib.hid (HBE.out.trans (hb3.mono HBE.out.size))
      have HBS3 := Lib.hid (HBS.out.later hb3)
      have HN3 := Lib.hid ((hb3.block _ (lt_of_heap HN.out)).trans HN.out)
      clear hb3 HPU hc0 hc1 hc2 hc3 hc4 hf0 hf1 hf2 hf3 hf4
      have hr3 := lt_of_heap HN3.out
      have hc3 := cellAt HN3.out 3 (v := .string sd) rfl
      have hf3 := freeAt HN3.out 3
      have hxw : IntKind.u8.wrap (x : Int) = (x : Int) := by rw [IntKind.wrap_u8]; omega
      have hNA : (w3.alloc (.cells #[.int .u8 (x : Int)] 5)).heap[w3.heap.size]? = some (.cells #[.int .u8 (x : Int)] 5 (0, 0)) := heap_alloc_new _ _
      have hcv := run_convert_bytes_back (P := Tryz.prog) (w3.alloc (.cells #[.int .u8 (x : Int)] 5)) 33 9 5 ⟨w3.heap.size, 0, none⟩ 1 [UInt8.ofNat x] Tryz.underlying33 Tryz.underlying5 Tryz.underlying9 (fun k hk => by
        rw [Addr.add_lit]
        have : k = 0 := by simpa using hk
        subst this
        have e : (UInt8.ofNat x).toNat = x := by rw [UInt8.toNat_ofNat']; omega
        rw [List.getElem_cons_zero, e]
        exact cellAt hNA 0 rfl)
      simp only [List.length_singleton] at hcv
      clear hNA
      have HB4 : Hid (Below w.heap.size w (w3.alloc (.cells #[.int .u8 (x : Int)] 5))) := HB3.out.alloc HB3.out.size _
      have HBS4 : Hid (Base (w3.alloc (.cells #[.int .u8 (x : Int)] 5))) := HBS3.out.later ((Below.refl _ _).alloc (Nat.le_refl _) _)
      have HN4 : Hid ((w3.alloc (.cells #[.int .u8 (x : Int)] 5)).heap[w.heap.size]? = some (.cells #[.int .i64 3, .int .i64 0, .float .f64 0, .string sd, .slice none 0 0] 26 (0, 0))) := (Below.heap_alloc _ _ _ hr3).trans HN3.out
      obtain ⟨sx, hsx⟩ : ∃ sx : ByteArray, sx = ⟨[UInt8.ofNat x].toArray⟩ := ⟨_, rfl⟩
      have hsxs : sx.size = 1 := by rw [hsx]; rfl
      have hsxd : sx.data.toList = [UInt8.ofNat x] := by rw [hsx]
      rw [← hsx] at hcv
      have HSX := Lib.hid hsxd
      clear hsx hsxd
      go_wp2_with fail
      have hbn : Below w.heap.size w ((w3.setCell ⟨w.heap.size, 3, none⟩ (.string (sd ++ sx))).alloc (.cells #[.int .u8 (x : Int)] 5)) := (HB3.out.setCell (Nat.le_refl _) _).alloc (by show w.heap.size ≤ (w3.setCell _ _).heap.size; rw [World.size_setCell]; exact HB3.out.size) _
      refine ⟨⟨_, sd ++ sx, rfl, ?_, ?_, ?_, hbn, HB0.out.later hbn⟩, ?_⟩
      · rw [ByteArray.size_append]; omega
      · rw [Hid, HVV.out, HX2.out, ByteArray.data_append, Array.toList_append, HSX.out]; simp
      · exact (Below.heap_alloc _ _ _ (by rw [World.size_setCell]; exact hr3)).trans (heap_store HN3.out 3 _)
      · show (sr.extract 2 sr.size).size < sr.size
        omega
    · go_wp2
      refine bodyPost_ret (results_row1 (P := Tryz.prog) rfl _ _ w.heap.size 26 _ (0, 0) _ rfl (set5 HN.out rfl _ _ _ _ _) Tryz.underlying26 rfl rfl) rfl ⟨?_, bel5 HBE.out (Nat.le_refl _) _ _ _ _ _⟩
      rw [HV.out, unhexP_nil _ (by rw [← Lib.size_eq]; omega), List.append_nil, ba_data']

/-- strconv.ParseInt at base 10, as a word takes it. -/
theorem pint_any (s : ByteArray) (hs : s.size ≤ 1000000) (w : World) (hE : Errs w) :
    Calls Tryz.prog 96 #[.string s, .int .i64 10, .int .i64 64] w fun e w' => (∃ err, e = .returned (.tuple #[.int .i64 (intP s.data.toList), err])) ∧ Below w.heap.size w w' := by
  obtain ⟨⟨evs, hs1, hs2⟩, ⟨evr, hr1, hr2⟩⟩ := hE
  unfold intP
  cases h : Lib.parseIntB 64 s.data.toList with
  | ok v =>
    refine (Tryz.strconv_ParseInt_10_at64_ok s (by omega) v h w).mono ?_
    rintro e w' ⟨rfl, hw⟩
    refine ⟨⟨_, rfl⟩, ?_⟩
    rcases hw with rfl | ⟨t, rfl⟩
    · exact Below.refl _ _
    · exact Lib.bytesWorld_below _ _ _
  | range =>
    refine (Tryz.strconv_ParseInt_10_at64_range s (by omega) h evr w hr1 hr2).mono ?_
    rintro e w' ⟨N, rfl, -, -, hb⟩
    exact ⟨⟨_, rfl⟩, hb⟩
  | _ =>
    refine (Tryz.strconv_ParseInt_10_at64_syntax s (by omega) h evs w hs1 hs2).mono ?_
    rintro e w' ⟨N, rfl, -, -, hb⟩
    exact ⟨⟨_, rfl⟩, hb⟩
set_option maxRecDepth 100000 in
set_option maxHeartbeats 4000000 in
theorem word_plain (s : ByteArray) (hs : s.size ≤ 1000000) (w : World) (hB : Base w) (h35 : s.data.toList.head? ≠ some 35) (h34 : s.data.toList.head? ≠ some 34) :
    Calls Tryz.prog 69 #[.string s] w fun e w' => e = .returned (atomV (wordP s.data.toList)) ∧ Below w.heap.size w w' := by
  have HP0 : ∀ W, Calls Tryz.prog 67 #[.string s, .string ⟨#[35]⟩] W fun e w' => e = .returned (.bool false) ∧ w' = W := fun W => by
    have h := Tryz.strings_HasPrefix s ⟨#[35]⟩ W
    rw [show (⟨#[35]⟩ : ByteArray).data.toList = [35] from rfl, head_pre, decide_eq_false h35] at h
    exact h
  have HP1 : ∀ W, Calls Tryz.prog 67 #[.string s, .string ⟨#[34]⟩] W fun e w' => e = .returned (.bool false) ∧ w' = W := fun W => by
    have h := Tryz.strings_HasPrefix s ⟨#[34]⟩ W
    rw [show (⟨#[34]⟩ : ByteArray).data.toList = [34] from rfl, head_pre, decide_eq_false h34] at h
    exact h
  have HQ := Lib.hid HP0
  have HR := Lib.hid HP1
  by_cases hn : s = ⟨#[110, 105, 108]⟩
  · have hW : wordP s.data.toList = zeroT := by unfold wordP; rw [if_neg h35, if_neg h34, if_pos (by rw [hn])]
    have hA : atomV (wordP s.data.toList) = .agg #[.int .i64 0, .int .i64 0, .float .f64 0, .string ⟨#[]⟩, .slice none 0 0] := by rw [hW]; rfl
    rw [hA]
    have HX : Hid ((v5 w 0).heap[w.heap.size]? = some (.cells #[.int .i64 0, .int .i64 0, .float .f64 0, .string ⟨#[]⟩, .slice none 0 0] 26 (0, 0))) := heap_alloc_new _ _
    have HB1 : Hid (Below w.heap.size w (v5 w 0)) := (Below.refl _ _).alloc (Nat.le_refl _) _
    clear hA hW HP0 HP1 h35 h34 hB
    subst hn
    go_enter Tryz.func69, Tryz.ntmps69
    go_wp2_with (first
      | (go_at_call 67; first | (refine (HQ.out _).mono ?_; rintro e w1 ⟨rfl, rfl⟩) | (refine (HR.out _).mono ?_; rintro e w1 ⟨rfl, rfl⟩))
      | fail)
    exact bodyPost_ret (results_row1 (P := Tryz.prog) rfl _ _ w.heap.size 26 _ (0, 0) _ rfl HX.out Tryz.underlying26 rfl rfl) rfl ⟨rfl, HB1.out⟩
  · have hne := beq_toListBytes s ⟨#[110, 105, 108]⟩
    have hne2 := ba_beq s ⟨#[110, 105, 108]⟩
    rw [decide_eq_false hn] at hne2
    rw [hne2, toList_mk3 [110, 105, 108]] at hne
    have hne3 := hne.symm
    have hW : wordP s.data.toList = .node 1 (intP s.data.toList) 0 ⟨#[]⟩ [] := by
      unfold wordP
      rw [if_neg h35, if_neg h34, if_neg]
      intro h
      exact hn (by rw [← ba_data' s, h])
    have hA : atomV (wordP s.data.toList) = .agg #[.int .i64 1, .int .i64 (intP s.data.toList), .float .f64 0, .string ⟨#[]⟩, .slice none 0 0] := by rw [hW]; rfl
    rw [hA]
    have HX : Hid ((v5 w 1).heap[w.heap.size]? = some (.cells #[.int .i64 1, .int .i64 0, .float .f64 0, .string ⟨#[]⟩, .slice none 0 0] 26 (0, 0))) := heap_alloc_new _ _
    have HB1 : Hid (Below w.heap.size w (v5 w 1)) := (Below.refl _ _).alloc (Nat.le_refl _) _
    have HPI := Lib.hid (pint_any s hs _ (hB.later HB1.out).errs)
    generalize intP s.data.toList = n at *
    clear hA hW HP0 HP1 h35 h34 hB hn hne hne2
    go_enter Tryz.func69, Tryz.ntmps69
    go_wp2_with (first
      | (go_at_call 67; first | (refine (HQ.out _).mono ?_; rintro e w1 ⟨rfl, rfl⟩) | (refine (HR.out _).mono ?_; rintro e w1 ⟨rfl, rfl⟩))
      | fail)
    refine HPI.out.mono ?_
    rintro e w2 ⟨⟨err, rfl⟩, hb2⟩
    have HB2 := Lib.hid (HB1.out.trans (hb2.mono HB1.out.size))
    have HX2 := Lib.hid ((hb2.block _ (lt_of_heap HX.out)).trans HX.out)
    have hr2 := lt_of_heap HX2.out
    have hc0 := cellAt HX2.out 0 (v := .int .i64 1) rfl
    have hc1 := cellAt HX2.out 1 (v := .int .i64 0) rfl
    have hc2 := cellAt HX2.out 2 (v := .float .f64 0) rfl
    have hc3 := cellAt HX2.out 3 (v := .string ⟨#[]⟩) rfl
    have hc4 := cellAt HX2.out 4 (v := .slice none 0 0) rfl
    have hf0 := freeAt HX2.out 0
    have hf1 := freeAt HX2.out 1
    have hf2 := freeAt HX2.out 2
    have hf3 := freeAt HX2.out 3
    have hf4 := freeAt HX2.out 4
    clear hb2 HPI
    go_wp2
    refine bodyPost_ret (results_row1 (P := Tryz.prog) rfl _ _ w.heap.size 26 _ (0, 0) _ rfl (set5 (heap_store HX2.out 1 (.int .i64 n)) rfl _ _ _ _ _) Tryz.underlying26 rfl rfl) rfl ⟨rfl, bel5 (HB2.out.setCell (Nat.le_refl _) _) (Nat.le_refl _) _ _ _ _ _⟩
theorem word_any (s : ByteArray) (hs : s.size ≤ 1000000) (w : World) (hB : Base w) :
    Calls Tryz.prog 69 #[.string s] w fun e w' => e = .returned (atomV (wordP s.data.toList)) ∧ Below w.heap.size w w' := by
  by_cases h35 : s.data.toList.head? = some 35
  · exact word_num s hs w hB h35
  by_cases h34 : s.data.toList.head? = some 34
  · exact word_quoted s hs w hB h34
  · exact word_plain s hs w hB h35 h34
end Go.Proofs.YtpijpeocdlnhiaaGreatDoor
