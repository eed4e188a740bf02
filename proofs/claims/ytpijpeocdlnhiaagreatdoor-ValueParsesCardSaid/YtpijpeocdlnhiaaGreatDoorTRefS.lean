/- The reference's parse: a word at the beginning of a text. -/
import Derived.Test.YtpijpeocdlnhiaaGreatDoorTRefT
namespace Go.Proofs.YtpijpeocdlnhiaaGreatDoor
set_option linter.unusedVariables false
set_option linter.unusedSimpArgs false
open Go.RowKit

theorem results_row_tmp2 {P : Program} {fn : Func} {p u v : Tmp} {ty : TypeId} (h : fn.results = #[.cell p ty, .tmp u, .tmp v]) (tmps : Array Value) (w : World) (g : Nat) (t : TypeId) (cs : Array Value) (fr : Nat × Nat) (d : TypeDesc)
    (hp : tmps.getD p undef = .pointer (some ⟨g, 0, none⟩)) (hg : w.heap[g]? = some (.cells cs t fr))
    (hu : P.underlying ty = some d) (hd : (match d with | .struct _ | .array _ _ => true | _ => false) = true) (hi : (P.info? ty).map (·.size) = some cs.size) :
    (results fn tmps).run P w = .ok (.tuple #[.agg cs, tmps.getD u undef, tmps.getD v undef]) w := by
  have hl := run_loadVar_row w g t ty cs fr d hg hu hd hi
  simp only [results, h]
  simp [Sem.run_bind, Result.andThen, show tmps[p]?.getD undef = _ from by simpa [Array.getD_eq_getD_getElem?] using hp, asAddr, hl]
theorem own_atom (w : World) (S : Nat → Prop) (t : VT) (h : t.l = []) : TOwn w t ⟨t.k, t.n, t.f, t.s, none, 0, 0⟩ S := by
  obtain ⟨k, n, f, s, l⟩ := t
  simp only [VT.l] at h
  subst h
  rw [TOwn]
  exact ⟨rfl, rfl, rfl, rfl, rfl, Nat.zero_le _, .inl ⟨rfl, Reads.nil _ _⟩⟩
theorem atomR_nil (s : List UInt8) : (atomR s).1.l = [] := by
  unfold atomR
  repeat' split
  all_goals rfl
def ParsePostR (w : World) (r : VT × List UInt8 × Bool) (e : Ending) (w' : World) : Prop :=
  (∃ v : VV, e = .returned (.tuple #[v.val, .string ⟨r.2.1.toArray⟩, .bool r.2.2]) ∧ TOwn w' r.1 v (fun b => w.heap.size ≤ b ∧ b < w'.heap.size)) ∧ Below w.heap.size w w'
set_option maxRecDepth 100000 in
theorem rparse_post {w wr : World} {t : VT} {x : ByteArray} {r : List UInt8} {b : Bool} {ac : Act} (hN : wr.heap[w.heap.size]? = some (.cells #[.int .i64 0, .int .i64 0, .float .f64 0, .string ⟨#[]⟩, .slice none 0 0] 26 (0, 0)))
    (hB : Below w.heap.size w wr) (ht : t.l = []) (hx : x = ⟨r.toArray⟩) (h4 : ac.tmps.getD 4 undef = .pointer (some ⟨w.heap.size, 0, none⟩)) (h5 : ac.tmps.getD 5 undef = .string x) (h6 : ac.tmps.getD 6 undef = .bool b) (hd : ac.defers = []) :
    bodyPost Tryz.prog Tryz.f37 (ParsePostR w (t, r, b)) .ret ac (((((wr.setCell ⟨w.heap.size, 0, none⟩ (.int .i64 t.k)).setCell ⟨w.heap.size, 1, none⟩ (.int .i64 t.n)).setCell ⟨w.heap.size, 2, none⟩ (.float .f64 t.f)).setCell ⟨w.heap.size, 3, none⟩ (.string t.s)).setCell ⟨w.heap.size, 4, none⟩ (.slice none 0 0)) := by
  have hr := results_row_tmp2 (P := Tryz.prog) (fn := Tryz.f37) (u := 5) (v := 6) rfl ac.tmps _ w.heap.size 26 _ (0, 0) _ h4 (set5 hN rfl (.int .i64 t.k) (.int .i64 t.n) (.float .f64 t.f) (.string t.s) (.slice none 0 0)) Tryz.underlying26 rfl rfl
  rw [h5, h6, hx] at hr
  refine bodyPost_ret hr hd ?_
  exact ⟨⟨⟨t.k, t.n, t.f, t.s, none, 0, 0⟩, rfl, own_atom _ _ _ ht⟩, bel5 hB (Nat.le_refl _) _ _ _ _ _⟩
set_option maxRecDepth 100000 in
theorem rparse_postD {w wr : World} {t : VT} {x : ByteArray} {r : List UInt8} {b : Bool} {ac : Act} (hN : wr.heap[w.heap.size]? = some (.cells #[.int .i64 0, .int .i64 0, .float .f64 0, .string ⟨#[]⟩, .slice none 0 0] 26 (0, 0)))
    (hB : Below w.heap.size w wr) (ht : t.l = []) (hx : x = ⟨r.toArray⟩) (h4 : ac.tmps.getD 4 undef = .pointer (some ⟨w.heap.size, 0, none⟩)) (h5 : ac.tmps.getD 5 undef = .string x) (h6 : ac.tmps.getD 6 undef = .bool b) (hd : ac.defers = []) :
    bodyPost Tryz.prog Tryz.f37 (ParsePostR w (t, r, b)) .ret ac (World.drew (((((wr.setCell ⟨w.heap.size, 0, none⟩ (.int .i64 t.k)).setCell ⟨w.heap.size, 1, none⟩ (.int .i64 t.n)).setCell ⟨w.heap.size, 2, none⟩ (.float .f64 t.f)).setCell ⟨w.heap.size, 3, none⟩ (.string t.s)).setCell ⟨w.heap.size, 4, none⟩ (.slice none 0 0))) := by
  have hs := set5 hN rfl (.int .i64 t.k) (.int .i64 t.n) (.float .f64 t.f) (.string t.s) (.slice none 0 0)
  have hb := bel5 hB (Nat.le_refl _) (.int .i64 t.k) (.int .i64 t.n) (.float .f64 t.f) (.string t.s) (.slice none 0 0)
  generalize (((((wr.setCell ⟨w.heap.size, 0, none⟩ (.int .i64 t.k)).setCell ⟨w.heap.size, 1, none⟩ (.int .i64 t.n)).setCell ⟨w.heap.size, 2, none⟩ (.float .f64 t.f)).setCell ⟨w.heap.size, 3, none⟩ (.string t.s)).setCell ⟨w.heap.size, 4, none⟩ (.slice none 0 0)) = wz at hs hb ⊢
  have hs2 : wz.drew.heap[w.heap.size]? = some (.cells #[.int .i64 t.k, .int .i64 t.n, .float .f64 t.f, .string t.s, .slice none 0 0] 26 (0, 0)) := hs
  have hr := results_row_tmp2 (P := Tryz.prog) (fn := Tryz.f37) (u := 5) (v := 6) rfl ac.tmps wz.drew w.heap.size 26 _ (0, 0) _ h4 hs2 Tryz.underlying26 rfl rfl
  rw [h5, h6, hx] at hr
  refine bodyPost_ret hr hd ?_
  exact ⟨⟨⟨t.k, t.n, t.f, t.s, none, 0, 0⟩, rfl, own_atom _ _ _ ht⟩, hb.drew⟩
theorem wN_not (s : List UInt8) (m : Nat) (h : m < wN s) (hl : m < s.length) : stopC s[m] = false := by
  have := List.not_of_lt_findIdx (p := stopC) (xs := s) h
  simpa using this
theorem wN_at (s : List UInt8) (h : wN s < s.length) : stopC (s[wN s]'h) = true := List.findIdx_getElem (w := h)
theorem byte_eqb (b : UInt8) (n : Nat) (hn : n < 256) : ((b.toNat : Int) != (n : Int)) = (b != UInt8.ofNat n) := by
  have e : (UInt8.ofNat n).toNat = n := by rw [UInt8.toNat_ofNat']; omega
  by_cases h : b = UInt8.ofNat n
  · subst h; rw [e]; simp
  · have h2 : (b.toNat : Int) ≠ n := fun h3 => h (UInt8.toNat.inj (by rw [e]; omega))
    rw [bne_iff_ne.2 h2, bne_iff_ne.2 h]
set_option maxRecDepth 100000 in
set_option maxHeartbeats 4000000 in
theorem rparse_word (s : ByteArray) (hs : s.size ≤ 1000000) (k : Nat) (hk : k ≤ 8) (w : World) (h : s.data.toList.head? ≠ some 91) :
    Calls Tryz.prog 37 #[.string s, .int .i64 k] w (ParsePostR w ((atomR (s.data.toList.take (wN s.data.toList))).1, s.data.toList.drop (wN s.data.toList), (atomR (s.data.toList.take (wN s.data.toList))).2)) := by
  have HX : Hid ((w.alloc (.cells #[.int .i64 0, .int .i64 0, .float .f64 0, .string ⟨#[]⟩, .slice none 0 0] 26)).heap[w.heap.size]? = some (.cells #[.int .i64 0, .int .i64 0, .float .f64 0, .string ⟨#[]⟩, .slice none 0 0] 26 (0, 0))) := heap_alloc_new _ _
  have HB1 : Hid (Below w.heap.size w (w.alloc (.cells #[.int .i64 0, .int .i64 0, .float .f64 0, .string ⟨#[]⟩, .slice none 0 0] 26))) := (Below.refl _ _).alloc (Nat.le_refl _) _
  have HH := Lib.hid h
  clear h
  obtain ⟨N, hN⟩ : ∃ N, N = wN s.data.toList := ⟨_, rfl⟩
  have hNs : N ≤ s.size := by rw [hN, Lib.size_eq]; exact wN_le _
  have HBE : Hid (∀ m (hm : m < s.size), m < N → (((s[m]'hm).toNat : Int) != 32) = true ∧ (((s[m]'hm).toNat : Int) != 93) = true) := by
    intro m hm hmN
    have hst := wN_not s.data.toList m (hN ▸ hmN) (by rw [bsize]; exact hm)
    have hse : s.data.toList[m]'(by rw [bsize]; exact hm) = s[m]'hm := Array.getElem_toList _
    rw [hse] at hst
    have h1 := byte_eqb (s[m]'hm) 32 (by decide)
    have h2 := byte_eqb (s[m]'hm) 93 (by decide)
    generalize s[m]'hm = z at *
    refine ⟨h1.trans ?_, h2.trans ?_⟩
    · rw [bne_iff_ne]; rintro rfl; exact absurd hst (by decide)
    · rw [bne_iff_ne]; rintro rfl; exact absurd hst (by decide)
  have HAT : Hid (∀ (hm : N < s.size), ((((s[N]'hm).toNat : Int) != 32) = false ∧ True) ∨ ((((s[N]'hm).toNat : Int) != 32) = true ∧ (((s[N]'hm).toNat : Int) != 93) = false)) := by
    intro hm
    have hm2 : wN s.data.toList < s.data.toList.length := by rw [bsize, ← hN]; exact hm
    have hst := wN_at s.data.toList hm2
    have hse : s.data.toList[wN s.data.toList]'hm2 = s[N]'hm := by subst hN; exact Array.getElem_toList _
    rw [hse] at hst
    have h1 := byte_eqb (s[N]'hm) 32 (by decide)
    have h2 := byte_eqb (s[N]'hm) 93 (by decide)
    generalize s[N]'hm = z at *
    unfold stopC at hst
    rw [Bool.or_eq_true, beq_iff_eq, beq_iff_eq] at hst
    rcases hst with rfl | rfl
    · exact .inl ⟨h1.trans (by decide), trivial⟩
    · exact .inr ⟨h1.trans (by decide), h2.trans (by decide)⟩
  have hx1 : (s.extract 0 N).data.toList = s.data.toList.take N := by rw [ex_list]; simp
  have hx1s : (s.extract 0 N).size ≤ 1000000 := by rw [Lib.size_eq, hx1, List.length_take, ← Lib.size_eq]; omega
  have hx2 : (s.extract N s.size) = ⟨(s.data.toList.drop N).toArray⟩ := by
    refine bs_of ?_
    rw [ex_list, List.take_of_length_le]
    rw [List.length_drop, ← Lib.size_eq]; exact Nat.le_refl _
  rw [← hN]
  have HC := Lib.hid (ratom_any (s.extract 0 N) hx1s)
  rw [hx1] at HC
  simp only [atomV] at HC
  have HX2 := Lib.hid hx2
  obtain ⟨p, hp⟩ : ∃ p, p = atomR (s.data.toList.take N) := ⟨_, rfl⟩
  have HPL : Hid (p.1.l = []) := by rw [Hid, hp]; exact atomR_nil _
  rw [← hp] at HC ⊢
  clear hN hx1 hx1s hx2 hp
  go_enter Tryz.func37, Tryz.ntmps37
  go_upto_region 1 with fail
  generalize (w.alloc (.cells #[.int .i64 0, .int .i64 0, .float .f64 0, .string ⟨#[]⟩, .slice none 0 0] 26)) = wd at *
  go_cut [20] from 14 to 20 (fun s20 wx => s20 = .bool true ∧ wx = wd)
  case first =>
    rcases Nat.lt_or_ge 0 s.size with hpos | hz
    · obtain ⟨x, r, hsr⟩ : ∃ x r, s.data.toList = x :: r := by
        cases hd : s.data.toList with
        | nil => rw [Lib.size_eq, hd] at hpos; simp at hpos
        | cons a b => exact ⟨a, b, rfl⟩
      have hie : s.toList.isEmpty = false := by rw [ByteArray.toList_eq, hsr]; rfl
      have h91 : ((((s[0]'hpos).toNat : Nat) : Int) != 91) = true := by
        rw [ba_get0 hpos hsr]
        have h1 := byte_eqb x 91 (by decide)
        refine h1.trans ?_
        rw [bne_iff_ne]
        rintro rfl
        exact HH.out (by rw [hsr]; rfl)
      clear hsr
      go_wp2_with fail
      all_goals go_meet
      all_goals exact ⟨rfl, rfl⟩
    · have he : s.toList.isEmpty = true := by
        have : s.data.toList = [] := List.eq_nil_of_length_eq_zero (by rw [← Lib.size_eq]; omega)
        rw [ByteArray.toList_eq, this]; rfl
      go_wp2_with fail
      all_goals go_meet
      all_goals exact ⟨rfl, rfl⟩
  obtain ⟨rfl, hwd⟩ := hcut
  subst hwd
  go_wp2_with fail
  go_loopw [7] (fun i w' => ∃ m : Nat, i = .int .i64 m ∧ m ≤ N ∧ w' = wc) (fun i _ => s.size - (RowKit.intOf i).toNat)
  case atStart => exact ⟨0, rfl, Nat.zero_le _, rfl⟩
  case round =>
    obtain ⟨m, rfl, hm, hwr⟩ := hrel
    subst hwr
    by_cases hmN : m < N
    · have hms : m < s.size := by omega
      obtain ⟨h32, h93⟩ := HBE.out m hms hmN
      go_wp2_with fail
      refine ⟨⟨m + 1, by go_num, by omega, trivial⟩, ?_⟩
      simp [RowKit.intOf]; omega
    · obtain rfl : m = N := by omega
      clear hm hmN
      by_cases hms : m < s.size
      · rcases HAT.out hms with ⟨h1, -⟩ | ⟨h1, h2⟩
        · clear HAT HBE HH
          go_wp2_with fail
          refine (HC.out _).mono ?_
          rintro e w2 ⟨rfl, hb2⟩
          have HB2 := Lib.hid (HB1.out.trans (hb2.mono HB1.out.size))
          have HN2 := Lib.hid ((hb2.block _ (lt_of_heap HX.out)).trans HX.out)
          clear hb2 HC
          go_upto_region 6 with fail
          have HY3 : Hid ((w2.alloc (.cells #[.int .i64 p.1.k, .int .i64 p.1.n, .float .f64 p.1.f, .string p.1.s, .slice none 0 0] 26)).heap[w2.heap.size]? = some (.cells #[.int .i64 p.1.k, .int .i64 p.1.n, .float .f64 p.1.f, .string p.1.s, .slice none 0 0] 26 (0, 0))) := heap_alloc_new _ _
          have HN3 : Hid ((w2.alloc (.cells #[.int .i64 p.1.k, .int .i64 p.1.n, .float .f64 p.1.f, .string p.1.s, .slice none 0 0] 26)).heap[w.heap.size]? = some (.cells #[.int .i64 0, .int .i64 0, .float .f64 0, .string ⟨#[]⟩, .slice none 0 0] 26 (0, 0))) := (Below.heap_alloc _ _ _ (lt_of_heap HN2.out)).trans HN2.out
          have HB3 : Hid (Below w.heap.size w (w2.alloc (.cells #[.int .i64 p.1.k, .int .i64 p.1.n, .float .f64 p.1.f, .string p.1.s, .slice none 0 0] 26))) := HB2.out.alloc HB2.out.size _
          generalize (w2.alloc (.cells #[.int .i64 p.1.k, .int .i64 p.1.n, .float .f64 p.1.f, .string p.1.s, .slice none 0 0] 26)) = w3 at *
          have hy0 := cellAt HY3.out 0 (v := .int .i64 p.1.k) rfl
          have hy1 := cellAt HY3.out 1 (v := .int .i64 p.1.n) rfl
          have hy2 := cellAt HY3.out 2 (v := .float .f64 p.1.f) rfl
          have hy3 := cellAt HY3.out 3 (v := .string p.1.s) rfl
          have hy4 := cellAt HY3.out 4 (v := .slice none 0 0) rfl
          have hz0 := freeAt HY3.out 0
          have hz1 := freeAt HY3.out 1
          have hz2 := freeAt HY3.out 2
          have hz3 := freeAt HY3.out 3
          have hz4 := freeAt HY3.out 4
          have hc0 := cellAt HN3.out 0 (v := .int .i64 0) rfl
          have hc1 := cellAt HN3.out 1 (v := .int .i64 0) rfl
          have hc2 := cellAt HN3.out 2 (v := .float .f64 0) rfl
          have hc3 := cellAt HN3.out 3 (v := .string ⟨#[]⟩) rfl
          have hc4 := cellAt HN3.out 4 (v := .slice none 0 0) rfl
          have hf0 := freeAt HN3.out 0
          have hf1 := freeAt HN3.out 1
          have hf2 := freeAt HN3.out 2
          have hf3 := freeAt HN3.out 3
          have hf4 := freeAt HN3.out 4
          go_region_law (fail)
          all_goals go_wp2_with fail
          refine rparse_postD (t := p.1) (x := s.extract m s.size) HN3.out HB3.out HPL.out HX2.out ?_ ?_ ?_ rfl <;> rfl
        · clear HAT HBE HH
          go_wp2_with fail
          refine (HC.out _).mono ?_
          rintro e w2 ⟨rfl, hb2⟩
          have HB2 := Lib.hid (HB1.out.trans (hb2.mono HB1.out.size))
          have HN2 := Lib.hid ((hb2.block _ (lt_of_heap HX.out)).trans HX.out)
          clear hb2 HC
          go_upto_region 6 with fail
          have HY3 : Hid ((w2.alloc (.cells #[.int .i64 p.1.k, .int .i64 p.1.n, .float .f64 p.1.f, .string p.1.s, .slice none 0 0] 26)).heap[w2.heap.size]? = some (.cells #[.int .i64 p.1.k, .int .i64 p.1.n, .float .f64 p.1.f, .string p.1.s, .slice none 0 0] 26 (0, 0))) := heap_alloc_new _ _
          have HN3 : Hid ((w2.alloc (.cells #[.int .i64 p.1.k, .int .i64 p.1.n, .float .f64 p.1.f, .string p.1.s, .slice none 0 0] 26)).heap[w.heap.size]? = some (.cells #[.int .i64 0, .int .i64 0, .float .f64 0, .string ⟨#[]⟩, .slice none 0 0] 26 (0, 0))) := (Below.heap_alloc _ _ _ (lt_of_heap HN2.out)).trans HN2.out
          have HB3 : Hid (Below w.heap.size w (w2.alloc (.cells #[.int .i64 p.1.k, .int .i64 p.1.n, .float .f64 p.1.f, .string p.1.s, .slice none 0 0] 26))) := HB2.out.alloc HB2.out.size _
          generalize (w2.alloc (.cells #[.int .i64 p.1.k, .int .i64 p.1.n, .float .f64 p.1.f, .string p.1.s, .slice none 0 0] 26)) = w3 at *
          have hy0 := cellAt HY3.out 0 (v := .int .i64 p.1.k) rfl
          have hy1 := cellAt HY3.out 1 (v := .int .i64 p.1.n) rfl
          have hy2 := cellAt HY3.out 2 (v := .float .f64 p.1.f) rfl
          have hy3 := cellAt HY3.out 3 (v := .string p.1.s) rfl
          have hy4 := cellAt HY3.out 4 (v := .slice none 0 0) rfl
          have hz0 := freeAt HY3.out 0
          have hz1 := freeAt HY3.out 1
          have hz2 := freeAt HY3.out 2
          have hz3 := freeAt HY3.out 3
          have hz4 := freeAt HY3.out 4
          have hc0 := cellAt HN3.out 0 (v := .int .i64 0) rfl
          have hc1 := cellAt HN3.out 1 (v := .int .i64 0) rfl
          have hc2 := cellAt HN3.out 2 (v := .float .f64 0) rfl
          have hc3 := cellAt HN3.out 3 (v := .string ⟨#[]⟩) rfl
          have hc4 := cellAt HN3.out 4 (v := .slice none 0 0) rfl
          have hf0 := freeAt HN3.out 0
          have hf1 := freeAt HN3.out 1
          have hf2 := freeAt HN3.out 2
          have hf3 := freeAt HN3.out 3
          have hf4 := freeAt HN3.out 4
          go_region_law (fail)
          all_goals go_wp2_with fail
          refine rparse_postD (t := p.1) (x := s.extract m s.size) HN3.out HB3.out HPL.out HX2.out ?_ ?_ ?_ rfl <;> rfl
      · clear HAT HBE HH
        go_wp2_with fail
        refine (HC.out _).mono ?_
        rintro e w2 ⟨rfl, hb2⟩
        have HB2 := Lib.hid (HB1.out.trans (hb2.mono HB1.out.size))
        have HN2 := Lib.hid ((hb2.block _ (lt_of_heap HX.out)).trans HX.out)
        clear hb2 HC
        go_upto_region 6 with fail
        have HY3 : Hid ((w2.alloc (.cells #[.int .i64 p.1.k, .int .i64 p.1.n, .float .f64 p.1.f, .string p.1.s, .slice none 0 0] 26)).heap[w2.heap.size]? = some (.cells #[.int .i64 p.1.k, .int .i64 p.1.n, .float .f64 p.1.f, .string p.1.s, .slice none 0 0] 26 (0, 0))) := heap_alloc_new _ _
        have HN3 : Hid ((w2.alloc (.cells #[.int .i64 p.1.k, .int .i64 p.1.n, .float .f64 p.1.f, .string p.1.s, .slice none 0 0] 26)).heap[w.heap.size]? = some (.cells #[.int .i64 0, .int .i64 0, .float .f64 0, .string ⟨#[]⟩, .slice none 0 0] 26 (0, 0))) := (Below.heap_alloc _ _ _ (lt_of_heap HN2.out)).trans HN2.out
        have HB3 : Hid (Below w.heap.size w (w2.alloc (.cells #[.int .i64 p.1.k, .int .i64 p.1.n, .float .f64 p.1.f, .string p.1.s, .slice none 0 0] 26))) := HB2.out.alloc HB2.out.size _
        generalize (w2.alloc (.cells #[.int .i64 p.1.k, .int .i64 p.1.n, .float .f64 p.1.f, .string p.1.s, .slice none 0 0] 26)) = w3 at *
        have hy0 := cellAt HY3.out 0 (v := .int .i64 p.1.k) rfl
        have hy1 := cellAt HY3.out 1 (v := .int .i64 p.1.n) rfl
        have hy2 := cellAt HY3.out 2 (v := .float .f64 p.1.f) rfl
        have hy3 := cellAt HY3.out 3 (v := .string p.1.s) rfl
        have hy4 := cellAt HY3.out 4 (v := .slice none 0 0) rfl
        have hz0 := freeAt HY3.out 0
        have hz1 := freeAt HY3.out 1
        have hz2 := freeAt HY3.out 2
        have hz3 := freeAt HY3.out 3
        have hz4 := freeAt HY3.out 4
        have hc0 := cellAt HN3.out 0 (v := .int .i64 0) rfl
        have hc1 := cellAt HN3.out 1 (v := .int .i64 0) rfl
        have hc2 := cellAt HN3.out 2 (v := .float .f64 0) rfl
        have hc3 := cellAt HN3.out 3 (v := .string ⟨#[]⟩) rfl
        have hc4 := cellAt HN3.out 4 (v := .slice none 0 0) rfl
        have hf0 := freeAt HN3.out 0
        have hf1 := freeAt HN3.out 1
        have hf2 := freeAt HN3.out 2
        have hf3 := freeAt HN3.out 3
        have hf4 := freeAt HN3.out 4
        go_region_law (fail)
        all_goals go_wp2_with fail
        refine rparse_postD (t := p.1) (x := s.extract m s.size) HN3.out HB3.out HPL.out HX2.out ?_ ?_ ?_ rfl <;> rfl
end Go.Proofs.YtpijpeocdlnhiaaGreatDoor
