/- The reference's parse: a word at the beginning of a text.
The reference's parse: a list at the beginning of a text; then at every text. -/
import Derived.Test.YtpijpeocdlnhiaaGreatDoorTRefT
namespace Go.Proofs.YtpijpeocdlnhiaaGreatDoor
set_option linter.unusedVariables false
set_option linter.unusedSimpArgs false
open Go.RowKit

theorem results_row_tmp2 {P : Program} {fn : Func} {p u v : Tmp} {ty : TypeId} (h : fn.results = #[.cell p ty, .tmp u, .tmp v]) (tmps : Array Value) (w : World) (g : Nat) (t : TypeId) (cs : Array Value) (fr : Nat × Nat) (d : TypeDesc)
    (hp : tmps.getD p undef = .pointer (some ⟨g, 0, none⟩)) (hg : w.heap[g]? = some (.cells cs t fr))
    (hu : P.underlying ty = some d) (hd : (match d with | .struct _ | .array _ _ => true | _ => false) = true) (hi : (P.info? ty).map (·.size) = some cs.size) :
    (results fn tmps).run P w = .ok (.tuple #[.agg cs, tmps.getD u undef, tmps.getD v undef]) w := by
  have hl := run_loadVar_row w g t ty cs fr d hg hu hd hi
  simp only [results, h]
  simp [Sem.run_bind, Result.andThen, show tmps[p]?.getD undef = _ from by simpa [Array.getD_eq_getD_getElem?] using hp, asAddr, hl]
theorem own_atom (w : World) (S : Nat → Prop) (t : VT) (h : t.l = []) : TOwn w t ⟨t.k, t.n, t.f, t.s, none, 0, 0⟩ S := by
  obtain ⟨k, n, f, s, l⟩ := t
  simp only [VT.l] at h
  subst h
  rw [TOwn]
  exact ⟨rfl, rfl, rfl, rfl, rfl, Nat.zero_le _, .inl ⟨rfl, Reads.nil _ _⟩⟩
theorem atomR_nil (s : List UInt8) : (atomR s).1.l = [] := by
  unfold atomR
  repeat' split
  all_goals rfl
def ParsePostR (w : World) (r : VT × List UInt8 × Bool) (e : Ending) (w' : World) : Prop :=
  (∃ v : VV, e = .returned (.tuple #[v.val, .string ⟨r.2.1.toArray⟩, .bool r.2.2]) ∧ TOwn w' r.1 v (fun b => w.heap.size ≤ b ∧ b < w'.heap.size)) ∧ Below w.heap.size w w'
set_option maxRecDepth 100000 in
theorem rparse_post {w wr : World} {t : VT} {x : ByteArray} {r : List UInt8} {b : Bool} {ac : Act} (hN : wr.heap[w.heap.size]? = some (.cells #[.int .i64 0, .int .i64 0, .float .f64 0, .string ⟨#[]⟩, .slice none 0 0] 26 (0, 0)))
    (hB : Below w.heap.size w wr) (ht : t.l = []) (hx : x = ⟨r.toArray⟩) (h4 : ac.tmps.getD 4 undef = .pointer (some ⟨w.heap.size, 0, none⟩)) (h5 : ac.tmps.getD 5 undef = .string x) (h6 : ac.tmps.getD 6 undef = .bool b) (hd : ac.defers = []) :
    bodyPost Tryz.prog Tryz.f37 (ParsePostR w (t, r, b)) .ret ac (((((wr.setCell ⟨w.heap.size, 0, none⟩ (.int .i64 t.k)).setCell ⟨w.heap.size, 1, none⟩ (.int .i64 t.n)).setCell ⟨w.heap.size, 2, none⟩ (.float .f64 t.f)).setCell ⟨w.heap.size, 3, none⟩ (.string t.s)).setCell ⟨w.heap.size, 4, none⟩ (.slice none 0 0)) := by
  have hr := results_row_tmp2 (P := Tryz.prog) (fn := Tryz.f37) (u := 5) (v := 6) rfl ac.tmps _ w.heap.size 26 _ (0, 0) _ h4 (set5 hN rfl (.int .i64 t.k) (.int .i64 t.n) (.float .f64 t.f) (.string t.s) (.slice none 0 0)) Tryz.underlying26 rfl rfl
  rw [h5, h6, hx] at hr
  refine bodyPost_ret hr hd ?_
  exact ⟨⟨⟨t.k, t.n, t.f, t.s, none, 0, 0⟩, rfl, own_atom _ _ _ ht⟩, bel5 hB (Nat.le_refl _) _ _ _ _ _⟩
set_option maxRecDepth 100000 in
theorem rparse_postD {w wr : World} {t : VT} {x : ByteArray} {r : List UInt8} {b : Bool} {ac : Act} (hN : wr.heap[w.heap.size]? = some (.cells #[.int .i64 0, .int .i64 0, .float .f64 0, .string ⟨#[]⟩, .slice none 0 0] 26 (0, 0)))
    (hB : Below w.heap.size w wr) (ht : t.l = []) (hx : x = ⟨r.toArray⟩) (h4 : ac.tmps.getD 4 undef = .pointer (some ⟨w.heap.size, 0, none⟩)) (h5 : ac.tmps.getD 5 undef = .string x) (h6 : ac.tmps.getD 6 undef = .bool b) (hd : ac.defers = []) :
    bodyPost Tryz.prog Tryz.f37 (ParsePostR w (t, r, b)) .ret ac (World.drew (((((wr.setCell ⟨w.heap.size, 0, none⟩ (.int .i64 t.k)).setCell ⟨w.heap.size, 1, none⟩ (.int .i64 t.n)).setCell ⟨w.heap.size, 2, none⟩ (.float .f64 t.f)).setCell ⟨w.heap.size, 3, none⟩ (.string t.s)).setCell ⟨w.heap.size, 4, none⟩ (.slice none 0 0))) := by
  have hs := set5 hN rfl (.int .i64 t.k) (.int .i64 t.n) (.float .f64 t.f) (.string t.s) (.slice none 0 0)
  have hb := bel5 hB (Nat.le_refl _) (.int .i64 t.k) (.int .i64 t.n) (.float .f64 t.f) (.string t.s) (.slice none 0 0)
  generalize (((((wr.setCell ⟨w.heap.size, 0, none⟩ (.int .i64 t.k)).setCell ⟨w.heap.size, 1, none⟩ (.int .i64 t.n)).setCell ⟨w.heap.size, 2, none⟩ (.float .f64 t.f)).setCell ⟨w.heap.size, 3, none⟩ (.string t.s)).setCell ⟨w.heap.size, 4, none⟩ (.slice none 0 0)) = wz at hs hb ⊢
  have hs2 : wz.drew.heap[w.heap.size]? = some (.cells #[.int .i64 t.k, .int .i64 t.n, .float .f64 t.f, .string t.s, .slice none 0 0] 26 (0, 0)) := hs
  have hr := results_row_tmp2 (P := Tryz.prog) (fn := Tryz.f37) (u := 5) (v := 6) rfl ac.tmps wz.drew w.heap.size 26 _ (0, 0) _ h4 hs2 Tryz.underlying26 rfl rfl
  rw [h5, h6, hx] at hr
  refine bodyPost_ret hr hd ?_
  exact ⟨⟨⟨t.k, t.n, t.f, t.s, none, 0, 0⟩, rfl, own_atom _ _ _ ht⟩, hb.drew⟩
theorem wN_not (s : List UInt8) (m : Nat) (h : m < wN s) (hl : m < s.length) : stopC s[m] = false := by
  have := List.not_of_lt_findIdx (p := stopC) (xs := s) h
  simpa using this
theorem wN_at (s : List UInt8) (h : wN s < s.length) : stopC (s[wN s]'h) = true := List.findIdx_getElem (w := h)
theorem byte_eqb (b : UInt8) (n : Nat) (hn : n < 256) : ((b.toNat : Int) != (n : Int)) = (b != UInt8.ofNat n) := by
  have e : (UInt8.ofNat n).toNat = n := by rw [UInt8.toNat_ofNat']; omega
  by_cases h : b = UInt8.ofNat n
  · subst h; rw [e]; simp
  · have h2 : (b.toNat : Int) ≠ n := fun h3 => h (UInt8.toNat.inj (by rw [e]; omega))
    rw [bne_iff_ne.2 h2, bne_iff_ne.2 h]
set_option maxRecDepth 100000 in
set_option maxHeartbeats 4000000 in
theorem rparse_word (s : ByteArray) (hs : s.size ≤ 1000000) (k : Nat) (hk : k ≤ 8) (w : World) (h : s.data.toList.head? ≠ some 91) :
    Calls Tryz.prog 37 #[.string s, .int .i64 k] w (ParsePostR w ((atomR (s.data.toList.take (wN s.data.toList))).1, s.data.toList.drop (wN s.data.toList), (atomR (s.data.toList.take (wN s.data.toList))).2)) := by
  have HX : Hid ((w.alloc (.cells #[.int .i64 0, .int .i64 0, .float .f64 0, .string ⟨#[]⟩, .slice none 0 0] 26)).heap[w.heap.size]? = some (.cells #[.int .i64 0, .int .i64 0, .float .f64 0, .string ⟨#[]⟩, .slice none 0 0] 26 (0, 0))) := heap_alloc_new _ _
  have HB1 : Hid (Below w.heap.size w (w.alloc (.cells #[.int .i64 0, .int .i64 0, .float .f64 0, .string ⟨#[]⟩, .slice none 0 0] 26))) := (Below.refl _ _).alloc (Nat.le_refl _) _
  have HH := Lib.hid h
  clear h
  obtain ⟨N, hN⟩ : ∃ N, N = wN s.data.toList := ⟨_, rfl⟩
  have hNs : N ≤ s.size := by rw [hN, Lib.size_eq]; exact wN_le _
  have HBE : Hid (∀ m (hm : m < s.size), m < N → (((s[m]'hm).toNat : Int) != 32) = true ∧ (((s[m]'hm).toNat : Int) != 93) = true) := by
    intro m hm hmN
    have hst := wN_not s.data.toList m (hN ▸ hmN) (by rw [bsize]; exact hm)
    have hse : s.data.toList[m]'(by rw [bsize]; exact hm) = s[m]'hm := Array.getElem_toList _
    rw [hse] at hst
    have h1 := byte_eqb (s[m]'hm) 32 (by decide)
    have h2 := byte_eqb (s[m]'hm) 93 (by decide)
    generalize s[m]'hm = z at *
    refine ⟨h1.trans ?_, h2.trans ?_⟩
    · rw [bne_iff_ne]; rintro rfl; exact absurd hst (by decide)
    · rw [bne_iff_ne]; rintro rfl; exact absurd hst (by decide)
  have HAT : Hid (∀ (hm : N < s.size), ((((s[N]'hm).toNat : Int) != 32) = false ∧ True) ∨ ((((s[N]'hm).toNat : Int) != 32) = true ∧ (((s[N]'hm).toNat : Int) != 93) = false)) := by
    intro hm
    have hm2 : wN s.data.toList < s.data.toList.length := by rw [bsize, ← hN]; exact hm
    have hst := wN_at s.data.toList hm2
    have hse : s.data.toList[wN s.data.toList]'hm2 = s[N]'hm := by subst hN; exact Array.getElem_toList _
    rw [hse] at hst
    have h1 := byte_eqb (s[N]'hm) 32 (by decide)
    have h2 := byte_eqb (s[N]'hm) 93 (by decide)
    generalize s[N]'hm = z at *
    unfold stopC at hst
    rw [Bool.or_eq_true, beq_iff_eq, beq_iff_eq] at hst
    rcases hst with rfl | rfl
    · exact .inl ⟨h1.trans (by decide), trivial⟩
    · exact .inr ⟨h1.trans (by decide), h2.trans (by decide)⟩
  have hx1 : (s.extract 0 N).data.toList = s.data.toList.take N := by rw [ex_list]; simp
  have hx1s : (s.extract 0 N).size ≤ 1000000 := by rw [Lib.size_eq, hx1, List.length_take, ← Lib.size_eq]; omega
  have hx2 : (s.extract N s.size) = ⟨(s.data.toList.drop N).toArray⟩ := by
    refine bs_of ?_
    rw [ex_list, List.take_of_length_le]
    rw [List.length_drop, ← Lib.size_eq]; exact Nat.le_refl _
  rw [← hN]
  have HC := Lib.hid (ratom_any (s.extract 0 N) hx1s)
  rw [hx1] at HC
  simp only [atomV] at HC
  have HX2 := Lib.hid hx2
  obtain ⟨p, hp⟩ : ∃ p, p = atomR (s.data.toList.take N) := ⟨_, rfl⟩
  have HPL : Hid (p.1.l = []) := by rw [Hid, hp]; exact atomR_nil _
  rw [← hp] at HC ⊢
  clear hN hx1 hx1s hx2 hp
  go_enter Tryz.func37, Tryz.ntmps37
  go_upto_region 1 with fail
  generalize (w.alloc (.cells #[.int .i64 0, .int .i64 0, .float .f64 0, .string ⟨#[]⟩, .slice none 0 0] 26)) = wd at *
  go_cut [20] from 14 to 20 (fun s20 wx => s20 = .bool true ∧ wx = wd)
  case first =>
    rcases Nat.lt_or_ge 0 s.size with hpos | hz
    · obtain ⟨x, r, hsr⟩ : ∃ x r, s.data.toList = x :: r := by
        cases hd : s.data.toList with
        | nil => rw [Lib.size_eq, hd] at hpos; simp at hpos
        | cons a b => exact ⟨a, b, rfl⟩
      have hie : s.toList.isEmpty = false := by rw [ByteArray.toList_eq, hsr]; rfl
      have h91 : ((((s[0]'hpos).toNat : Nat) : Int) != 91) = true := by
        rw [ba_get0 hpos hsr]
        have h1 := byte_eqb x 91 (by decide)
        refine h1.trans ?_
        rw [bne_iff_ne]
        rintro rfl
        exact HH.out (by rw [hsr]; rfl)
      clear hsr
      go_wp2_with fail
      all_goals go_meet
      all_goals exact ⟨rfl, rfl⟩
    · have he : s.toList.isEmpty = true := by
        have : s.data.toList = [] := List.eq_nil_of_length_eq_zero (by rw [← Lib.size_eq]; omega)
        rw [ByteArray.toList_eq, this]; rfl
      go_wp2_with fail
      all_goals go_meet
      all_goals exact ⟨rfl, rfl⟩
  obtain ⟨rfl, hwd⟩ := hcut
  subst hwd
  go_wp2_with fail
  go_loopw [7] (fun i w' => ∃ m : Nat, i = .int .i64 m ∧ m ≤ N ∧ w' = wc) (fun i _ => s.size - (RowKit.intOf i).toNat)
  case atStart => exact ⟨0, rfl, Nat.zero_le _, rfl⟩
  case round =>
    obtain ⟨m, rfl, hm, hwr⟩ := hrel
    subst hwr
    by_cases hmN : m < N
    · have hms : m < s.size := by omega
      obtain ⟨h32, h93⟩ := HBE.out m hms hmN
      go_wp2_with fail
      refine ⟨⟨m + 1, by go_num, by omega, trivial⟩, ?_⟩
      simp [RowKit.intOf]; omega
    · obtain rfl : m = N := by omega
      clear hm hmN
      by_cases hms : m < s.size
      · rcases HAT.out hms with ⟨h1, -⟩ | ⟨h1, h2⟩
        · clear HAT HBE HH
          go_wp2_with fail
          refine (HC.out _).mono ?_
          rintro e w2 ⟨rfl, hb2⟩
          have HB2 := Lib.hid (HB1.out.trans (hb2.mono HB1.out.size))
          have HN2 := Lib.hid ((hb2.block _ (lt_of_heap HX.out)).trans HX.out)
          clear hb2 HC
          go_upto_region 6 with fail
          have HY3 : Hid ((w2.alloc (.cells #[.int .i64 p.1.k, .int .i64 p.1.n, .float .f64 p.1.f, .string p.1.s, .slice none 0 0] 26)).heap[w2.heap.size]? = some (.cells #[.int .i64 p.1.k, .int .i64 p.1.n, .float .f64 p.1.f, .string p.1.s, .slice none 0 0] 26 (0, 0))) := heap_alloc_new _ _
          have HN3 : Hid ((w2.alloc (.cells #[.int .i64 p.1.k, .int .i64 p.1.n, .float .f64 p.1.f, .string p.1.s, .slice none 0 0] 26)).heap[w.heap.size]? = some (.cells #[.int .i64 0, .int .i64 0, .float .f64 0, .string ⟨#[]⟩, .slice none 0 0] 26 (0, 0))) := (Below.heap_alloc _ _ _ (lt_of_heap HN2.out)).trans HN2.out
          have HB3 : Hid (Below w.heap.size w (w2.alloc (.cells #[.int .i64 p.1.k, .int .i64 p.1.n, .float .f64 p.1.f, .string p.1.s, .slice none 0 0] 26))) := HB2.out.alloc HB2.out.size _
          generalize (w2.alloc (.cells #[.int .i64 p.1.k, .int .i64 p.1.n, .float .f64 p.1.f, .string p.1.s, .slice none 0 0] 26)) = w3 at *
          have hy0 := cellAt HY3.out 0 (v := .int .i64 p.1.k) rfl
          have hy1 := cellAt HY3.out 1 (v := .int .i64 p.1.n) rfl
          have hy2 := cellAt HY3.out 2 (v := .float .f64 p.1.f) rfl
          have hy3 := cellAt HY3.out 3 (v := .string p.1.s) rfl
          have hy4 := cellAt HY3.out 4 (v := .slice none 0 0) rfl
          have hz0 := freeAt HY3.out 0
          have hz1 := freeAt HY3.out 1
          have hz2 := freeAt HY3.out 2
          have hz3 := freeAt HY3.out 3
          have hz4 := freeAt HY3.out 4
          have hc0 := cellAt HN3.out 0 (v := .int .i64 0) rfl
          have hc1 := cellAt HN3.out 1 (v := .int .i64 0) rfl
          have hc2 := cellAt HN3.out 2 (v := .float .f64 0) rfl
          have hc3 := cellAt HN3.out 3 (v := .string ⟨#[]⟩) rfl
          have hc4 := cellAt HN3.out 4 (v := .slice none 0 0) rfl
          have hf0 := freeAt HN3.out 0
          have hf1 := freeAt HN3.out 1
          have hf2 := freeAt HN3.out 2
          have hf3 := freeAt HN3.out 3
          have hf4 := freeAt HN3.out 4
          go_region_law (fail)
          all_goals go_wp2_with fail
          refine rparse_postD (t := p.1) (x := s.extract m s.size) HN3.out HB3.out HPL.out HX2.out ?_ ?_ ?_ rfl <;> rfl
        · clear HAT HBE HH
          go_wp2_with fail
          refine (HC.out _).mono ?_
          rintro e w2 ⟨rfl, hb2⟩
          have HB2 := Lib.hid (HB1.out.trans (hb2.mono HB1.out.size))
          have HN2 := Lib.hid ((hb2.block _ (lt_of_heap HX.out)).trans HX.out)
          clear hb2 HC
          go_upto_region 6 with fail
          have HY3 : Hid ((w2.alloc (.cells #[.int .i64 p.1.k, .int .i64 p.1.n, .float .f64 p.1.f, .string p.1.s, .slice none 0 0] 26)).heap[w2.heap.size]? = some (.cells #[.int .i64 p.1.k, .int .i64 p.1.n, .float .f64 p.1.f, .string p.1.s, .slice none 0 0] 26 (0, 0))) := heap_alloc_new _ _
          have HN3 : Hid ((w2.alloc (.cells #[.int .i64 p.1.k, .int .i64 p.1.n, .float .f64 p.1.f, .string p.1.s, .slice none 0 0] 26)).heap[w.heap.size]? = some (.cells #[.int .i64 0, .int .i64 0, .float .f64 0, .string ⟨#[]⟩, .slice none 0 0] 26 (0, 0))) := (Below.heap_alloc _ _ _ (lt_of_heap HN2.out)).trans HN2.out
          have HB3 : Hid (Below w.heap.size w (w2.alloc (.cells #[.int .i64 p.1.k, .int .i64 p.1.n, .float .f64 p.1.f, .string p.1.s, .slice none 0 0] 26))) := HB2.out.alloc HB2.out.size _
          generalize (w2.alloc (.cells #[.int .i64 p.1.k, .int .i64 p.1.n, .float .f64 p.1.f, .string p.1.s, .slice none 0 0] 26)) = w3 at *
          have hy0 := cellAt HY3.out 0 (v := .int .i64 p.1.k) rfl
          have hy1 := cellAt HY3.out 1 (v := .int .i64 p.1.n) rfl
          have hy2 := cellAt HY3.out 2 (v := .float .f64 p.1.f) rfl
          have hy3 := cellAt HY3.out 3 (v := .string p.1.s) rfl
          have hy4 := cellAt HY3.out 4 (v := .slice none 0 0) rfl
          have hz0 := freeAt HY3.out 0
          have hz1 := freeAt HY3.out 1
          have hz2 := freeAt HY3.out 2
          have hz3 := freeAt HY3.out 3
          have hz4 := freeAt HY3.out 4
          have hc0 := cellAt HN3.out 0 (v := .int .i64 0) rfl
          have hc1 := cellAt HN3.out 1 (v := .int .i64 0) rfl
          have hc2 := cellAt HN3.out 2 (v := .float .f64 0) rfl
          have hc3 := cellAt HN3.out 3 (v := .string ⟨#[]⟩) rfl
          have hc4 := cellAt HN3.out 4 (v := .slice none 0 0) rfl
          have hf0 := freeAt HN3.out 0
          have hf1 := freeAt HN3.out 1
          have hf2 := freeAt HN3.out 2
          have hf3 := freeAt HN3.out 3
          have hf4 := freeAt HN3.out 4
          go_region_law (fail)
          all_goals go_wp2_with fail
          refine rparse_postD (t := p.1) (x := s.extract m s.size) HN3.out HB3.out HPL.out HX2.out ?_ ?_ ?_ rfl <;> rfl
      · clear HAT HBE HH
        go_wp2_with fail
        refine (HC.out _).mono ?_
        rintro e w2 ⟨rfl, hb2⟩
        have HB2 := Lib.hid (HB1.out.trans (hb2.mono HB1.out.size))
        have HN2 := Lib.hid ((hb2.block _ (lt_of_heap HX.out)).trans HX.out)
        clear hb2 HC
        go_upto_region 6 with fail
        have HY3 : Hid ((w2.alloc (.cells #[.int .i64 p.1.k, .int .i64 p.1.n, .float .f64 p.1.f, .string p.1.s, .slice none 0 0] 26)).heap[w2.heap.size]? = some (.cells #[.int .i64 p.1.k, .int .i64 p.1.n, .float .f64 p.1.f, .string p.1.s, .slice none 0 0] 26 (0, 0))) := heap_alloc_new _ _
        have HN3 : Hid ((w2.alloc (.cells #[.int .i64 p.1.k, .int .i64 p.1.n, .float .f64 p.1.f, .string p.1.s, .slice none 0 0] 26)).heap[w.heap.size]? = some (.cells #[.int .i64 0, .int .i64 0, .float .f64 0, .string ⟨#[]⟩, .slice none 0 0] 26 (0, 0))) := (Below.heap_alloc _ _ _ (lt_of_heap HN2.out)).trans HN2.out
        have HB3 : Hid (Below w.heap.size w (w2.alloc (.cells #[.int .i64 p.1.k, .int .i64 p.1.n, .float .f64 p.1.f, .string p.1.s, .slice none 0 0] 26))) := HB2.out.alloc HB2.out.size _
        generalize (w2.alloc (.cells #[.int .i64 p.1.k, .int .i64 p.1.n, .float .f64 p.1.f, .string p.1.s, .slice none 0 0] 26)) = w3 at *
        have hy0 := cellAt HY3.out 0 (v := .int .i64 p.1.k) rfl
        have hy1 := cellAt HY3.out 1 (v := .int .i64 p.1.n) rfl
        have hy2 := cellAt HY3.out 2 (v := .float .f64 p.1.f) rfl
        have hy3 := cellAt HY3.out 3 (v := .string p.1.s) rfl
        have hy4 := cellAt HY3.out 4 (v := .slice none 0 0) rfl
        have hz0 := freeAt HY3.out 0
        have hz1 := freeAt HY3.out 1
        have hz2 := freeAt HY3.out 2
        have hz3 := freeAt HY3.out 3
        have hz4 := freeAt HY3.out 4
        have hc0 := cellAt HN3.out 0 (v := .int .i64 0) rfl
        have hc1 := cellAt HN3.out 1 (v := .int .i64 0) rfl
        have hc2 := cellAt HN3.out 2 (v := .float .f64 0) rfl
        have hc3 := cellAt HN3.out 3 (v := .string ⟨#[]⟩) rfl
        have hc4 := cellAt HN3.out 4 (v := .slice none 0 0) rfl
        have hf0 := freeAt HN3.out 0
        have hf1 := freeAt HN3.out 1
        have hf2 := freeAt HN3.out 2
        have hf3 := freeAt HN3.out 3
        have hf4 := freeAt HN3.out 4
        go_region_law (fail)
        all_goals go_wp2_with fail
        refine rparse_postD (t := p.1) (x := s.extract m s.size) HN3.out HB3.out HPL.out HX2.out ?_ ?_ ?_ rfl <;> rfl
end Go.Proofs.YtpijpeocdlnhiaaGreatDoor
namespace Go.Proofs.YtpijpeocdlnhiaaGreatDoor
set_option linter.unusedVariables false
set_option linter.unusedSimpArgs false
open Go.RowKit

set_option maxRecDepth 100000 in
theorem rlist_post {w wr : World} {acc : List VT} {vs : List VV} {col : Nat → Nat} {a : Option Addr} {c : Nat} {ac : Act} {r : List UInt8} {x : ByteArray} (hN : wr.heap[w.heap.size]? = some (.cells #[.int .i64 0, .int .i64 0, .float .f64 0, .string ⟨#[]⟩, .slice none 0 0] 26 (0, 0)))
    (hC : Cl wr (w.heap.size + 2) (.slice a acc.length c) acc vs col) (hB : Below w.heap.size w wr) (hm : acc.length ≤ maxLen) (hx : x = ⟨r.toArray⟩) (h4 : ac.tmps.getD 4 undef = .pointer (some ⟨w.heap.size, 0, none⟩)) (h5 : ac.tmps.getD 5 undef = .string x) (h6 : ac.tmps.getD 6 undef = .bool true) (hd : ac.defers = []) :
    bodyPost Tryz.prog Tryz.f37 (ParsePostR w (.node 4 0 0 ⟨#[]⟩ acc, r, true)) .ret ac (((((wr.setCell ⟨w.heap.size, 0, none⟩ (.int .i64 4)).setCell ⟨w.heap.size, 1, none⟩ (.int .i64 0)).setCell ⟨w.heap.size, 2, none⟩ (.float .f64 0)).setCell ⟨w.heap.size, 3, none⟩ (.string ⟨#[]⟩)).setCell ⟨w.heap.size, 4, none⟩ (.slice a acc.length c)) := by
  have hr := results_row_tmp2 (P := Tryz.prog) (fn := Tryz.f37) (u := 5) (v := 6) rfl ac.tmps _ w.heap.size 26 _ (0, 0) _ h4 (set5 hN rfl (.int .i64 4) (.int .i64 0) (.float .f64 0) (.string ⟨#[]⟩) (.slice a acc.length c)) Tryz.underlying26 rfl rfl
  rw [h5, h6, hx] at hr
  refine bodyPost_ret hr hd ?_
  have hl : w.heap.size < w.heap.size + 2 := by omega
  have hCF := ((((hC.stored (p := ⟨w.heap.size, 0, none⟩) (u := .int .i64 4) hl).stored (p := ⟨w.heap.size, 1, none⟩) (u := .int .i64 0) hl).stored (p := ⟨w.heap.size, 2, none⟩) (u := .float .f64 0) hl).stored (p := ⟨w.heap.size, 3, none⟩) (u := .string ⟨#[]⟩) hl).stored (p := ⟨w.heap.size, 4, none⟩) (u := .slice a acc.length c) hl
  exact ⟨⟨⟨4, 0, 0, ⟨#[]⟩, a, acc.length, c⟩, rfl, (hCF.own hm).mono _ (fun b hb => ⟨by omega, hb.2⟩)⟩, bel5 hB (Nat.le_refl _) _ _ _ _ _⟩
set_option maxRecDepth 100000 in
theorem rlist_postD {w wr : World} {acc : List VT} {vs : List VV} {col : Nat → Nat} {a : Option Addr} {c : Nat} {ac : Act} {r : List UInt8} {x : ByteArray} (hN : wr.heap[w.heap.size]? = some (.cells #[.int .i64 0, .int .i64 0, .float .f64 0, .string ⟨#[]⟩, .slice none 0 0] 26 (0, 0)))
    (hC : Cl wr (w.heap.size + 2) (.slice a acc.length c) acc vs col) (hB : Below w.heap.size w wr) (hm : acc.length ≤ maxLen) (hx : x = ⟨r.toArray⟩) (h4 : ac.tmps.getD 4 undef = .pointer (some ⟨w.heap.size, 0, none⟩)) (h5 : ac.tmps.getD 5 undef = .string x) (h6 : ac.tmps.getD 6 undef = .bool true) (hd : ac.defers = []) :
    bodyPost Tryz.prog Tryz.f37 (ParsePostR w (.node 4 0 0 ⟨#[]⟩ acc, r, true)) .ret ac (World.drew (((((wr.setCell ⟨w.heap.size, 0, none⟩ (.int .i64 4)).setCell ⟨w.heap.size, 1, none⟩ (.int .i64 0)).setCell ⟨w.heap.size, 2, none⟩ (.float .f64 0)).setCell ⟨w.heap.size, 3, none⟩ (.string ⟨#[]⟩)).setCell ⟨w.heap.size, 4, none⟩ (.slice a acc.length c))) := by
  have hl : w.heap.size < w.heap.size + 2 := by omega
  have hCF := ((((hC.stored (p := ⟨w.heap.size, 0, none⟩) (u := .int .i64 4) hl).stored (p := ⟨w.heap.size, 1, none⟩) (u := .int .i64 0) hl).stored (p := ⟨w.heap.size, 2, none⟩) (u := .float .f64 0) hl).stored (p := ⟨w.heap.size, 3, none⟩) (u := .string ⟨#[]⟩) hl).stored (p := ⟨w.heap.size, 4, none⟩) (u := .slice a acc.length c) hl
  have hs := set5 hN rfl (.int .i64 4) (.int .i64 0) (.float .f64 0) (.string ⟨#[]⟩) (.slice a acc.length c)
  have hb := bel5 hB (Nat.le_refl _) (.int .i64 4) (.int .i64 0) (.float .f64 0) (.string ⟨#[]⟩) (.slice a acc.length c)
  generalize (((((wr.setCell ⟨w.heap.size, 0, none⟩ (.int .i64 4)).setCell ⟨w.heap.size, 1, none⟩ (.int .i64 0)).setCell ⟨w.heap.size, 2, none⟩ (.float .f64 0)).setCell ⟨w.heap.size, 3, none⟩ (.string ⟨#[]⟩)).setCell ⟨w.heap.size, 4, none⟩ (.slice a acc.length c)) = wz at hs hb hCF ⊢
  have hs2 : wz.drew.heap[w.heap.size]? = some (.cells #[.int .i64 4, .int .i64 0, .float .f64 0, .string ⟨#[]⟩, .slice a acc.length c] 26 (0, 0)) := hs
  have hr := results_row_tmp2 (P := Tryz.prog) (fn := Tryz.f37) (u := 5) (v := 6) rfl ac.tmps wz.drew w.heap.size 26 _ (0, 0) _ h4 hs2 Tryz.underlying26 rfl rfl
  rw [h5, h6, hx] at hr
  refine bodyPost_ret hr hd ?_
  have ho := TOwn.frame (w := wz) (w' := wz.drew) _ (fun k _ _ => rfl) (Cl.own (kk := 4) (nn := 0) (f := 0) (s := ⟨#[]⟩) hCF hm)
  exact ⟨⟨⟨4, 0, 0, ⟨#[]⟩, a, acc.length, c⟩, rfl, ho.mono _ (fun b hb => ⟨by omega, hb.2⟩)⟩, hb.drew⟩
theorem byte_eqd (b : UInt8) : ((b.toNat : Int) == 93) = decide (b = 93) := by
  by_cases h : b = 93
  · subst h; rfl
  · rw [decide_eq_false h, beq_eq_false_iff_ne]
    intro e
    exact h (UInt8.toNat.inj (by show b.toNat = 93; omega))
theorem head_ba {s : ByteArray} {d : UInt8} {q : List UInt8} (h : s.data.toList = d :: q) : 0 < s.size ∧ s.toList.isEmpty = false := ⟨by rw [Lib.size_eq, h]; simp, by rw [ByteArray.toList_eq, h]; rfl⟩
def leftS : Value → Nat
  | .string sr => sr.size
  | _ => 0
theorem loopR_no {p : List UInt8 → VT × List UInt8 × Bool} {n : Nat} {s : List UInt8} {acc : List VT} {t : VT} {q : List UInt8} (h : p s = (t, q, false)) : loopR p (n + 1) s acc = (zeroT, [], false) := by
  rw [loopR]; simp [h]
theorem loopR_end {p : List UInt8 → VT × List UInt8 × Bool} {n : Nat} {s : List UInt8} {acc : List VT} {t : VT} {b : Bool} (h : p s = (t, [], b)) : loopR p (n + 1) s acc = (zeroT, [], false) := by
  rw [loopR]; simp [h]
theorem loopR_93 {p : List UInt8 → VT × List UInt8 × Bool} {n : Nat} {s q : List UInt8} {acc : List VT} {t : VT} (h : p s = (t, 93 :: q, true)) : loopR p (n + 1) s acc = (.node 4 0 0 ⟨#[]⟩ (acc ++ [t]), q, true) := by
  rw [loopR]; simp [h]
theorem loopR_on {p : List UInt8 → VT × List UInt8 × Bool} {n : Nat} {s q : List UInt8} {acc : List VT} {t : VT} {d : UInt8} (hd : d ≠ 93) (h : p s = (t, d :: q, true)) : loopR p (n + 1) s acc = loopR p n q (acc ++ [t]) := by
  rw [loopR]; simp [h, hd]
set_option maxRecDepth 100000 in
set_option maxHeartbeats 1000000 in
theorem rparse_none (s : ByteArray) (w : World) (h : s.data.toList.head? = some 91) :
    Calls Tryz.prog 37 #[.string s, .int .i64 0] w (ParsePostR w (zeroT, [], false)) := by
  have HX : Hid ((w.alloc (.cells #[.int .i64 0, .int .i64 0, .float .f64 0, .string ⟨#[]⟩, .slice none 0 0] 26)).heap[w.heap.size]? = some (.cells #[.int .i64 0, .int .i64 0, .float .f64 0, .string ⟨#[]⟩, .slice none 0 0] 26 (0, 0))) := heap_alloc_new _ _
  have HB1 : Hid (Below w.heap.size w (w.alloc (.cells #[.int .i64 0, .int .i64 0, .float .f64 0, .string ⟨#[]⟩, .slice none 0 0] 26))) := (Below.refl _ _).alloc (Nat.le_refl _) _
  obtain ⟨r, hsr⟩ : ∃ r, s.data.toList = 91 :: r := by
    cases hd : s.data.toList with
    | nil => rw [hd] at h; cases h
    | cons a b => rw [hd] at h; cases h; exact ⟨b, rfl⟩
  have hpos : 0 < s.size := by rw [Lib.size_eq, hsr]; simp
  have hie : s.toList.isEmpty = false := by rw [ByteArray.toList_eq, hsr]; rfl
  have h91 : ((((s[0]'hpos).toNat : Nat) : Int) != 91) = false := by rw [ba_get0 hpos hsr]; rfl
  clear hsr h
  go_enter Tryz.func37, Tryz.ntmps37
  go_upto_region 1 with fail
  generalize (w.alloc (.cells #[.int .i64 0, .int .i64 0, .float .f64 0, .string ⟨#[]⟩, .slice none 0 0] 26)) = wd at *
  have hc0 := cellAt HX.out 0 (v := .int .i64 0) rfl
  have hc1 := cellAt HX.out 1 (v := .int .i64 0) rfl
  have hc2 := cellAt HX.out 2 (v := .float .f64 0) rfl
  have hc3 := cellAt HX.out 3 (v := .string ⟨#[]⟩) rfl
  have hc4 := cellAt HX.out 4 (v := .slice none 0 0) rfl
  have hf0 := freeAt HX.out 0
  have hf1 := freeAt HX.out 1
  have hf2 := freeAt HX.out 2
  have hf3 := freeAt HX.out 3
  have hf4 := freeAt HX.out 4
  go_wp2_with fail
  refine rparse_post (t := zeroT) (x := ⟨#[]⟩) HX.out HB1.out rfl rfl ?_ ?_ ?_ rfl <;> rfl
set_option maxRecDepth 100000 in
set_option maxHeartbeats 4000000 in
theorem rparse_list (k : Nat) (hk : k < 8) (IH : ∀ (s : ByteArray), s.size ≤ 1000000 → ∀ W, Calls Tryz.prog 37 #[.string s, .int .i64 k] W (ParsePostR W (parseR k s.data.toList)))
    (s : ByteArray) (hs : s.size ≤ 1000000) (w : World) (h : s.data.toList.head? = some 91) :
    Calls Tryz.prog 37 #[.string s, .int .i64 (k + 1 : Nat)] w (ParsePostR w (listR (parseR k) s.data.toList.tail)) := by
  have HX : Hid ((w.alloc (.cells #[.int .i64 0, .int .i64 0, .float .f64 0, .string ⟨#[]⟩, .slice none 0 0] 26)).heap[w.heap.size]? = some (.cells #[.int .i64 0, .int .i64 0, .float .f64 0, .string ⟨#[]⟩, .slice none 0 0] 26 (0, 0))) := heap_alloc_new _ _
  have HB1 : Hid (Below w.heap.size w (w.alloc (.cells #[.int .i64 0, .int .i64 0, .float .f64 0, .string ⟨#[]⟩, .slice none 0 0] 26))) := (Below.refl _ _).alloc (Nat.le_refl _) _
  have hsz1 : (w.alloc (.cells #[.int .i64 0, .int .i64 0, .float .f64 0, .string ⟨#[]⟩, .slice none 0 0] 26)).heap.size = w.heap.size + 1 := by simp
  obtain ⟨F, hF⟩ : ∃ F, F = listR (parseR k) s.data.toList.tail := ⟨_, rfl⟩
  rw [← hF]
  obtain ⟨r, hsr⟩ : ∃ r, s.data.toList = 91 :: r := by
    cases hd : s.data.toList with
    | nil => rw [hd] at h; cases h
    | cons a b => rw [hd] at h; cases h; exact ⟨b, rfl⟩
  have hpos : 0 < s.size := by rw [Lib.size_eq, hsr]; simp
  have hie : s.toList.isEmpty = false := by rw [ByteArray.toList_eq, hsr]; rfl
  have h91 : ((((s[0]'hpos).toNat : Nat) : Int) != 91) = false := by rw [ba_get0 hpos hsr]; rfl
  have hx : (s.extract 1 s.size).data.toList = s.data.toList.tail := tail1 s
  have hxs : (s.extract 1 s.size).size + 1 = s.size := by rw [Lib.size_eq, hx, List.length_tail, ← Lib.size_eq]; omega
  rw [← hx] at hF
  have HF := Lib.hid hF
  have HIH := Lib.hid IH
  have HOK := Lib.hid (parseR_ok k)
  clear IH hF hx hsr h
  obtain ⟨L, hL1, hL2, hL4⟩ : ∃ L : Int, L = (k + 1 : Nat) ∧ IntKind.i64.wrap (L - 1) = (k : Int) ∧ (L == 0) = false := ⟨_, rfl, by rw [IntKind.wrap_i64]; omega, by rw [beq_eq_false_iff_ne]; omega⟩
  rw [← hL1]
  clear hL1
  go_enter Tryz.func37, Tryz.ntmps37
  go_upto_region 1 with fail
  generalize (w.alloc (.cells #[.int .i64 0, .int .i64 0, .float .f64 0, .string ⟨#[]⟩, .slice none 0 0] 26)) = wd at *
  go_upto_region 11 with fail
  have HO2 : Hid ((wd.alloc (.cells #[.int .i64 4, .int .i64 0, .float .f64 0, .string ⟨#[]⟩, .slice none 0 0] 26)).heap[wd.heap.size]? = some (.cells #[.int .i64 4, .int .i64 0, .float .f64 0, .string ⟨#[]⟩, .slice none 0 0] 26 (0, 0))) := heap_alloc_new _ _
  have HX2 : Hid ((wd.alloc (.cells #[.int .i64 4, .int .i64 0, .float .f64 0, .string ⟨#[]⟩, .slice none 0 0] 26)).heap[w.heap.size]? = some (.cells #[.int .i64 0, .int .i64 0, .float .f64 0, .string ⟨#[]⟩, .slice none 0 0] 26 (0, 0))) := (Below.heap_alloc _ _ _ (lt_of_heap HX.out)).trans HX.out
  have HB2 : Hid (Below w.heap.size w (wd.alloc (.cells #[.int .i64 4, .int .i64 0, .float .f64 0, .string ⟨#[]⟩, .slice none 0 0] 26))) := HB1.out.alloc (by rw [hsz1]; omega) _
  rw [hsz1] at HO2
  have hsz2 : (wd.alloc (.cells #[.int .i64 4, .int .i64 0, .float .f64 0, .string ⟨#[]⟩, .slice none 0 0] 26)).heap.size = w.heap.size + 2 := by simp [hsz1]
  generalize (wd.alloc (.cells #[.int .i64 4, .int .i64 0, .float .f64 0, .string ⟨#[]⟩, .slice none 0 0] 26)) = w1 at *
  obtain ⟨s1, hs1⟩ : ∃ s1, s1 = s.extract 1 s.size := ⟨_, rfl⟩
  rw [← hs1] at HF hxs ⊢
  clear hs1
  obtain ⟨b93, hb93⟩ : ∃ b, b = decide (s1.data.toList.head? = some 93) := ⟨_, rfl⟩
  have HB93 := Lib.hid hb93
  clear hb93
  go_cut [63] from 57 to 63 (fun s63 wx => s63 = .bool b93 ∧ wx = w1)
  case first =>
    rcases hsr1 : s1.data.toList with - | ⟨c, r1⟩
    · have hie1 : s1.toList.isEmpty = true := by rw [ByteArray.toList_eq, hsr1]; rfl
      have hbb : b93 = false := by rw [HB93.out, hsr1]; rfl
      clear hsr1
      go_wp2_with fail
      all_goals go_meet
      all_goals exact ⟨by rw [hbb], rfl⟩
    · obtain ⟨hpos1, hie1⟩ := head_ba hsr1
      have hc93 : ((((s1[0]'hpos1).toNat : Nat) : Int) == 93) = b93 := by
        rw [ba_get0 hpos1 hsr1, HB93.out, hsr1, byte_eqd]; simp
      clear hsr1
      go_wp2_with fail
      all_goals go_meet
      all_goals exact ⟨rfl, rfl⟩
  obtain ⟨rfl, hwd⟩ := hcut
  subst hwd
  cases b93 with
  | true =>
    have hhd := of_decide_eq_true HB93.out.symm
    have HXX : Hid (s1.extract 1 s1.size = ⟨s1.data.toList.tail.toArray⟩) := bs_of (tail1 s1)
    have hp1 : 0 < s1.size := by
      rw [Lib.size_eq]
      cases hd : s1.data.toList with
      | nil => rw [hd] at hhd; cases hhd
      | cons a b => simp
    obtain rfl : F = (.node 4 0 0 ⟨#[]⟩ [], s1.data.toList.tail, true) := by rw [HF.out]; unfold listR; rw [if_pos hhd]
    have hp1i : (1 : Int) ≤ (s1.size : Int) := by omega
    clear HF hhd HB93
    go_upto_region 12 with fail
    obtain ⟨hx0, hx1, hx2, hx3, hx4⟩ := cells5 HO2.out
    have hc0 := cellAt HX2.out 0 (v := .int .i64 0) rfl
    have hc1 := cellAt HX2.out 1 (v := .int .i64 0) rfl
    have hc2 := cellAt HX2.out 2 (v := .float .f64 0) rfl
    have hc3 := cellAt HX2.out 3 (v := .string ⟨#[]⟩) rfl
    have hc4 := cellAt HX2.out 4 (v := .slice none 0 0) rfl
    have hf0 := freeAt HX2.out 0
    have hf1 := freeAt HX2.out 1
    have hf2 := freeAt HX2.out 2
    have hf3 := freeAt HX2.out 3
    have hf4 := freeAt HX2.out 4
    go_region_law (fail)
    all_goals go_wp2_with fail
    refine rlist_postD (acc := []) (vs := []) (col := fun _ => 0) (a := none) (c := 0) (x := s1.extract 1 s1.size) HX2.out (Cl.nil _ _) HB2.out (Nat.zero_le _) HXX.out ?_ ?_ ?_ rfl <;> rfl
  | false =>
    have hhd := of_decide_eq_false HB93.out.symm
    have HS : Hid (∃ n, loopR (parseR k) n s1.data.toList [] = F ∧ s1.size < n) := ⟨s1.data.toList.length + 1, by rw [HF.out]; unfold listR; rw [if_neg hhd], by rw [Lib.size_eq]; omega⟩
    clear HF hhd HB93
    go_wp2_with fail
    go_loopw [0] (fun i w' => ∃ (sr : ByteArray) (acc : List VT) (vs : List VV) (col : Nat → Nat) (a : Option Addr) (c : Nat), i = .string sr ∧ sr.size ≤ 1000000 ∧
        acc.length + sr.size ≤ 1000000 ∧ Hid (∃ n, loopR (parseR k) n sr.data.toList acc = F ∧ sr.size < n) ∧
        Hid (w'.heap[w.heap.size]? = some (.cells #[.int .i64 0, .int .i64 0, .float .f64 0, .string ⟨#[]⟩, .slice none 0 0] 26 (0, 0))) ∧
        Hid (w'.heap[w.heap.size + 1]? = some (.cells #[.int .i64 4, .int .i64 0, .float .f64 0, .string ⟨#[]⟩, .slice a acc.length c] 26 (0, 0))) ∧
        Hid (Cl w' (w.heap.size + 2) (.slice a acc.length c) acc vs col) ∧ Hid (Below w.heap.size w w') ∧ Hid (w.heap.size + 2 ≤ w'.heap.size)) (fun i _ => leftS i)
    case atStart =>
      exact ⟨s1, [], [], fun _ => 0, none, 0, rfl, by omega, by show 0 + _ ≤ _; omega, HS.out, HX2.out, HO2.out, Cl.nil _ _, HB2.out, by rw [Hid]; omega⟩
    case round =>
      obtain ⟨sr, acc, vs, col, a, c, rfl, hsz, hacc, HL, HZ, HN, HCL, HBE, HSZ⟩ := hrel
      obtain ⟨⟨t, rl, b⟩, hp⟩ : ∃ p, p = parseR k sr.data.toList := ⟨_, rfl⟩
      have hrl : rl.length ≤ sr.size := by
        have h := (HOK.out sr.data.toList (by rw [← Lib.size_eq]; unfold maxLen; omega)).2
        rw [← hp, ← Lib.size_eq] at h
        exact h
      have HC : Hid (Calls Tryz.prog 37 #[.string sr, .int .i64 k] wr (ParsePostR wr (t, rl, b))) := by
        have h := HIH.out sr hsz wr
        rw [← hp] at h
        exact h
      have HLP : Hid (∃ m, loopR (parseR k) (m + 1) sr.data.toList acc = F ∧ sr.size < m + 1) := by
        obtain ⟨n, h1, h2⟩ := HL.out
        obtain ⟨m, rfl⟩ : ∃ m, n = m + 1 := ⟨n - 1, by omega⟩
        exact ⟨m, h1, h2⟩
      have HPB : Hid (parseR k sr.data.toList = (t, rl, b)) := hp.symm
      clear hp HL HIH
      obtain ⟨rs, hrs⟩ : ∃ rs : ByteArray, rs = ⟨rl.toArray⟩ := ⟨_, rfl⟩
      have hrs2 : rs.data.toList = rl := by rw [hrs]
      have hrs3 : rs.size ≤ sr.size := by rw [Lib.size_eq, hrs2]; exact hrl
      have HRS := Lib.hid hrs
      have HRL := Lib.hid hrs2
      clear hrs hrs2 hrl
      have hr2 := lt_of_heap HN.out
      go_wp2_with fail
      refine HC.out.mono ?_
      rintro e w3 ⟨⟨v, rfl, hv⟩, hb⟩
      dsimp only at hv ⊢
      rw [← HRS.out]
      clear HC
      go_upto_region 14 with fail
      have HV2 : Hid ((w3.alloc (.cells #[.int .i64 v.k, .int .i64 v.n, .float .f64 v.f, .string v.s, .slice v.a v.l v.c] 26)).heap[w3.heap.size]? = some (.cells #[.int .i64 v.k, .int .i64 v.n, .float .f64 v.f, .string v.s, .slice v.a v.l v.c] 26 (0, 0))) := heap_alloc_new _ _
      have HZ2 : Hid ((w3.alloc (.cells #[.int .i64 v.k, .int .i64 v.n, .float .f64 v.f, .string v.s, .slice v.a v.l v.c] 26)).heap[w.heap.size]? = some (.cells #[.int .i64 0, .int .i64 0, .float .f64 0, .string ⟨#[]⟩, .slice none 0 0] 26 (0, 0))) := (Below.heap_alloc _ _ _ (Nat.lt_of_lt_of_le (lt_of_heap HZ.out) hb.size)).trans ((hb.block _ (lt_of_heap HZ.out)).trans HZ.out)
      have HN2 : Hid ((w3.alloc (.cells #[.int .i64 v.k, .int .i64 v.n, .float .f64 v.f, .string v.s, .slice v.a v.l v.c] 26)).heap[w.heap.size + 1]? = some (.cells #[.int .i64 4, .int .i64 0, .float .f64 0, .string ⟨#[]⟩, .slice a acc.length c] 26 (0, 0))) := (Below.heap_alloc _ _ _ (Nat.lt_of_lt_of_le (lt_of_heap HN.out) hb.size)).trans ((hb.block _ (lt_of_heap HN.out)).trans HN.out)
      have HB02 : Hid (Below wr.heap.size wr (w3.alloc (.cells #[.int .i64 v.k, .int .i64 v.n, .float .f64 v.f, .string v.s, .slice v.a v.l v.c] 26))) := hb.alloc hb.size _
      have HU2 : Hid (TOwn (w3.alloc (.cells #[.int .i64 v.k, .int .i64 v.n, .float .f64 v.f, .string v.s, .slice v.a v.l v.c] 26)) t v (fun b => wr.heap.size ≤ b ∧ b < (w3.alloc (.cells #[.int .i64 v.k, .int .i64 v.n, .float .f64 v.f, .string v.s, .slice v.a v.l v.c] 26)).heap.size)) :=
        (hv.frame _ (fun k hk _ => Below.heap_alloc _ _ _ hk.2)).mono _ (fun b hb => ⟨hb.1, by simp only [World.size_alloc]; omega⟩)
      clear hv hb
      generalize (w3.alloc (.cells #[.int .i64 v.k, .int .i64 v.n, .float .f64 v.f, .string v.s, .slice v.a v.l v.c] 26)) = w2 at *
      cases b with
      | false =>
        have hF : F = (zeroT, [], false) := by obtain ⟨m, h1, -⟩ := HLP.out; rw [← h1]; exact loopR_no HPB.out
        have HB2' : Hid (Below w.heap.size w w2) := HBE.out.trans (HB02.out.mono HBE.out.size)
        clear HLP HPB HRS HRL HN HZ HCL HN2 HU2 HOK HS
        subst hF
        have hc0 := cellAt HZ2.out 0 (v := .int .i64 0) rfl
        have hc1 := cellAt HZ2.out 1 (v := .int .i64 0) rfl
        have hc2 := cellAt HZ2.out 2 (v := .float .f64 0) rfl
        have hc3 := cellAt HZ2.out 3 (v := .string ⟨#[]⟩) rfl
        have hc4 := cellAt HZ2.out 4 (v := .slice none 0 0) rfl
        have hf0 := freeAt HZ2.out 0
        have hf1 := freeAt HZ2.out 1
        have hf2 := freeAt HZ2.out 2
        have hf3 := freeAt HZ2.out 3
        have hf4 := freeAt HZ2.out 4
        go_wp2_with fail
        refine rparse_post (t := zeroT) (x := ⟨#[]⟩) HZ2.out HB2'.out rfl rfl ?_ ?_ ?_ rfl <;> rfl
      | true =>
        rcases rl with - | ⟨d, q⟩
        · have hF : F = (zeroT, [], false) := by obtain ⟨m, h1, -⟩ := HLP.out; rw [← h1]; exact loopR_end HPB.out
          have hie2 : rs.toList.isEmpty = true := by rw [ByteArray.toList_eq, HRL.out]; rfl
          have HB2' : Hid (Below w.heap.size w w2) := HBE.out.trans (HB02.out.mono HBE.out.size)
          clear HLP HPB HRS HRL HN HZ HCL HN2 HU2 HOK HS
          subst hF
          have hc0 := cellAt HZ2.out 0 (v := .int .i64 0) rfl
          have hc1 := cellAt HZ2.out 1 (v := .int .i64 0) rfl
          have hc2 := cellAt HZ2.out 2 (v := .float .f64 0) rfl
          have hc3 := cellAt HZ2.out 3 (v := .string ⟨#[]⟩) rfl
          have hc4 := cellAt HZ2.out 4 (v := .slice none 0 0) rfl
          have hf0 := freeAt HZ2.out 0
          have hf1 := freeAt HZ2.out 1
          have hf2 := freeAt HZ2.out 2
          have hf3 := freeAt HZ2.out 3
          have hf4 := freeAt HZ2.out 4
          go_wp2_with fail
          refine rparse_post (t := zeroT) (x := ⟨#[]⟩) HZ2.out HB2'.out rfl rfl ?_ ?_ ?_ rfl <;> rfl
        · obtain ⟨hpos2, hie2⟩ := head_ba HRL.out
          have hd2 : rs[0]'hpos2 = d := ba_get0 hpos2 HRL.out
          have hq : (rs.extract 1 rs.size).data.toList = q := by rw [tail1, HRL.out]; rfl
          have hqs : (rs.extract 1 rs.size).size + 1 = rs.size := by rw [Lib.size_eq, hq, Lib.size_eq rs, HRL.out]; simp
          have HQ : Hid (rs.extract 1 rs.size = ⟨q.toArray⟩) := bs_of hq
          have HQL := Lib.hid hq
          clear hq HRL HRS
          obtain ⟨hx0, hx1, hx2, hx3, hx4⟩ := cells5 HV2.out
          have hn4 := cellAt HN2.out 4 (v := .slice a acc.length c) rfl
          have HR2 := Lib.hid (HCL.out.1.frame (fun k hk hl => HB02.out.block k hl))
          obtain ⟨rq, hrq⟩ : ∃ rq, rq = rs.extract 1 rs.size := ⟨_, rfl⟩
          go_upto_region 17 with (refine wpList_row elemVal rfl rfl (S := fun b => (w.heap.size + 2 ≤ b ∧ b < wr.heap.size) ∧ col b = 0) (v := .slice a acc.length c) (n := acc.length) (xs := flat vs) rfl (HR2.out.frame (fun k _ hk => Below.heap_alloc _ _ _ hk)) (y := .slice (some ⟨w2.heap.size, 0, none⟩) 1 1) (m := 1) (news := v.cells) rfl (Reads.block (heap_alloc_new w2 _) 1 5 rfl) (VV.one v) (by unfold maxLen; omega) (by omega) ?_
                                  intro v5 w5 hr5 hch5
                                  obtain ⟨a5, c5, rfl⟩ : ∃ a5 c5, v5 = .slice a5 (acc.length + 1) c5 := (by obtain ⟨-, a5, c5, h, -⟩ := hr5.reads; exact ⟨a5, c5, h⟩)
                                  have HR5 := Lib.hid hr5
                                  have HCH5 := Lib.hid hch5
                                  have HN5 := Lib.hid (hch5.heap ((Below.heap_alloc _ _ _ (lt_of_heap HN2.out)).trans HN2.out) (by omega))
                                  have HZ5 := Lib.hid (hch5.heap ((Below.heap_alloc _ _ _ (lt_of_heap HZ2.out)).trans HZ2.out) (by omega))
                                  have hf5 := freeAt HN5.out 4
                                  have hn5 := cellAt HN5.out 4 (v := .slice a acc.length c) rfl
                                  clear hr5 hch5)
          have HCL6 : Hid (Cl w5 (w.heap.size + 2) (.slice a5 (acc.length + 1) c5) (acc ++ [t]) (vs ++ [v]) (fun b => if b < wr.heap.size then col b else if b < w2.heap.size then acc.length + 1 else 0)) :=
            HCL.out.step (w1 := w2) HSZ.out HU2.out HB02.out ((Below.refl _ _).alloc (Nat.le_refl _) _) (HR5.out.mono (fun b hb => hb.imp_right (fun h => Nat.le_of_succ_le (by simpa only [World.size_alloc] using h)))) HCH5.out
          have HB5 : Hid (Below w.heap.size w w5) := by
            have h00 := HSZ.out
            have h01 := HB02.out.size
            exact ((HBE.out.trans (HB02.out.mono HBE.out.size)).alloc (by have := HBE.out.size; omega) _).trans (HCH5.out.toBelow (B := w.heap.size) (by simp only [World.size_alloc]; omega) (fun n hn h => by omega))
          have hlen : (acc ++ [t]).length = acc.length + 1 := by simp
          have hne : w.heap.size ≠ w.heap.size + 1 := by omega
          have HN6 : Hid ((w5.setCell ⟨w.heap.size + 1, 4, none⟩ (.slice a5 (acc.length + 1) c5)).heap[w.heap.size + 1]? = some (.cells #[.int .i64 4, .int .i64 0, .float .f64 0, .string ⟨#[]⟩, .slice a5 (acc.length + 1) c5] 26 (0, 0))) := heap_store HN5.out 4 _
          have HZ6 : Hid ((w5.setCell ⟨w.heap.size + 1, 4, none⟩ (.slice a5 (acc.length + 1) c5)).heap[w.heap.size]? = some (.cells #[.int .i64 0, .int .i64 0, .float .f64 0, .string ⟨#[]⟩, .slice none 0 0] 26 (0, 0))) := (Below.heap_setCell _ _ _ _ hne).trans HZ5.out
          have HC6 := Lib.hid (HCL6.out.stored (p := ⟨w.heap.size + 1, 4, none⟩) (u := .slice a5 (acc.length + 1) c5) (Nat.lt_succ_self _))
          have HB6 : Hid (Below w.heap.size w (w5.setCell ⟨w.heap.size + 1, 4, none⟩ (.slice a5 (acc.length + 1) c5))) := HB5.out.setCell (Nat.le_succ _) _
          have HS6 : Hid (w.heap.size + 2 ≤ (w5.setCell ⟨w.heap.size + 1, 4, none⟩ (.slice a5 (acc.length + 1) c5)).heap.size) := lt_of_heap HN6.out
          clear HN5 HZ5 hf5 hn5 HCL6 HB5 HCH5 HR5 HR2 hn4 hx0 hx1 hx2 hx3 hx4 HB02 HU2 HN2 HV2 HZ2
          generalize (w5.setCell ⟨w.heap.size + 1, 4, none⟩ (.slice a5 (acc.length + 1) c5)) = w6 at *
          obtain ⟨ac2, hac2⟩ : ∃ ac2, ac2 = acc ++ [t] := ⟨_, rfl⟩
          have hlen2 : ac2.length = acc.length + 1 := by rw [hac2]; exact hlen
          rw [← hlen2] at HN6 HC6
          rw [← hac2] at HC6
          have HAC := Lib.hid hac2
          obtain ⟨col2, hcol2⟩ : ∃ col2 : Nat → Nat, col2 = (fun b => if b < wr.heap.size then col b else if b < w2.heap.size then ac2.length else 0) := ⟨_, rfl⟩
          rw [← hcol2] at HC6
          have HL2 := Lib.hid hlen2
          clear hac2 hlen hcol2 hlen2
          have hp2i : (1 : Int) ≤ (rs.size : Int) := by omega
          have h93 : ((((rs[0]'hpos2).toNat : Nat) : Int) == 93) = decide (d = 93) := by rw [hd2, byte_eqd]
          by_cases hd93 : d = 93
          · rw [decide_eq_true hd93] at h93
            have hF : F = (.node 4 0 0 ⟨#[]⟩ ac2, q, true) := by
              obtain ⟨m, h1, -⟩ := HLP.out
              rw [← h1, HAC.out]
              subst hd93
              exact loopR_93 HPB.out
            subst hF
            clear HLP HPB hd2 hd93 HAC
            obtain ⟨hx0, hx1, hx2, hx3, hx4⟩ := cells5 HN6.out
            have hc0 := cellAt HZ6.out 0 (v := .int .i64 0) rfl
            have hc1 := cellAt HZ6.out 1 (v := .int .i64 0) rfl
            have hc2 := cellAt HZ6.out 2 (v := .float .f64 0) rfl
            have hc3 := cellAt HZ6.out 3 (v := .string ⟨#[]⟩) rfl
            have hc4 := cellAt HZ6.out 4 (v := .slice none 0 0) rfl
            have hf0 := freeAt HZ6.out 0
            have hf1 := freeAt HZ6.out 1
            have hf2 := freeAt HZ6.out 2
            have hf3 := freeAt HZ6.out 3
            have hf4 := freeAt HZ6.out 4
            go_wp2_with fail
            refine rlist_post (acc := ac2) (a := a5) (c := c5) (x := rs.extract 1 rs.size) HZ6.out HC6.out HB6.out (by have := HL2.out; unfold maxLen; omega) HQ.out ?_ ?_ ?_ rfl <;> rfl
          · rw [decide_eq_false hd93] at h93
            have HLN : Hid (∃ n, loopR (parseR k) n (rs.extract 1 rs.size).data.toList ac2 = F ∧ (rs.extract 1 rs.size).size < n) := by
              obtain ⟨m, h1, h2⟩ := HLP.out
              exact ⟨m, by rw [← h1, HAC.out, HQL.out]; exact (loopR_on hd93 HPB.out).symm, by omega⟩
            clear HLP HPB hd2 hd93 HAC
            go_wp2_with fail
            go_roundw
            case rel => exact ⟨rs.extract 1 rs.size, ac2, vs ++ [v], col2, a5, c5, rfl, by omega, by have := HL2.out; omega, HLN.out, HZ6.out, HN6.out, HC6.out, HB6.out, HS6.out⟩
            case measure =>
              show leftS (.string _) < leftS (.string _)
              unfold leftS
              dsimp only
              omega
theorem rparse_any : ∀ (k : Nat), k ≤ 8 → ∀ (s : ByteArray), s.size ≤ 1000000 → ∀ w, Calls Tryz.prog 37 #[.string s, .int .i64 k] w (ParsePostR w (parseR k s.data.toList))
  | 0, hk, s, hs, w => by
    rw [parseR]
    split
    · rename_i h
      exact rparse_none s w h
    · rename_i h
      exact rparse_word s hs 0 hk w h
  | k + 1, hk, s, hs, w => by
    rw [parseR]
    split
    · rename_i h
      exact rparse_list k (by omega) (fun s hs W => rparse_any k (by omega) s hs W) s hs w h
    · rename_i h
      exact rparse_word s hs (k + 1) hk w h
end Go.Proofs.YtpijpeocdlnhiaaGreatDoor
