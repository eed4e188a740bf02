/- value.Parse and the reference's. -/
import Derived.Test.YtpijpeocdlnhiaaGreatDoorTRefV
import Derived.Test.YtpijpeocdlnhiaaGreatDoorTTextC
import Derived.Test.YtpijpeocdlnhiaaGreatDoorTRight
import Derived.Test.YtpijpeocdlnhiaaGreatDoorTLen
namespace Go.Proofs.YtpijpeocdlnhiaaGreatDoor
set_option linter.unusedVariables false
set_option linter.unusedSimpArgs false
open Go.RowKit

/-- What a reader of a whole text leaves: a payload in new blocks, and whether there is one. -/
def TopPost (w : World) (r : VT × Bool) (e : Ending) (w' : World) : Prop :=
  (∃ v : VV, e = .returned (.tuple #[v.val, .bool r.2]) ∧ TOwn w' r.1 v (fun b => w.heap.size ≤ b ∧ b < w'.heap.size)) ∧ Below w.heap.size w w'
theorem TOwn.setCell {w : World} {t : VT} {v : VV} {n B : Nat} (h : TOwn w t v (fun b => B ≤ b ∧ b < n)) {p : Addr} (hp : p.block < B) {u : Value} : TOwn (w.setCell p u) t v (fun b => B ≤ b ∧ b < n) :=
  h.frame _ (fun k hk _ => Below.heap_setCell _ _ _ _ (by omega))
set_option maxRecDepth 100000 in
theorem top_post {w wr : World} {f : Func} {t : VT} {v : VV} {b : Bool} {ac : Act} (hf : f.results = #[.cell 2 26, .tmp 3]) (hN : wr.heap[w.heap.size]? = some (.cells #[.int .i64 0, .int .i64 0, .float .f64 0, .string ⟨#[]⟩, .slice none 0 0] 26 (0, 0)))
    (hB : Below w.heap.size w wr) (hT : TOwn wr t v (fun b => w.heap.size + 1 ≤ b ∧ b < wr.heap.size)) (h2 : ac.tmps.getD 2 undef = .pointer (some ⟨w.heap.size, 0, none⟩)) (h3 : ac.tmps.getD 3 undef = .bool b) (hd : ac.defers = []) :
    bodyPost Tryz.prog f (TopPost w (t, b)) .ret ac (((((wr.setCell ⟨w.heap.size, 0, none⟩ (.int .i64 v.k)).setCell ⟨w.heap.size, 1, none⟩ (.int .i64 v.n)).setCell ⟨w.heap.size, 2, none⟩ (.float .f64 v.f)).setCell ⟨w.heap.size, 3, none⟩ (.string v.s)).setCell ⟨w.heap.size, 4, none⟩ (.slice v.a v.l v.c)) := by
  have hr := results_row_tmp (P := Tryz.prog) (fn := f) (u := 3) hf ac.tmps _ w.heap.size 26 _ (0, 0) _ h2 (set5 hN rfl (.int .i64 v.k) (.int .i64 v.n) (.float .f64 v.f) (.string v.s) (.slice v.a v.l v.c)) Tryz.underlying26 rfl rfl
  rw [h3] at hr
  refine bodyPost_ret hr hd ?_
  have hl : w.heap.size < w.heap.size + 1 := Nat.lt_succ_self _
  have hszs : (((((wr.setCell ⟨w.heap.size, 0, none⟩ (.int .i64 v.k)).setCell ⟨w.heap.size, 1, none⟩ (.int .i64 v.n)).setCell ⟨w.heap.size, 2, none⟩ (.float .f64 v.f)).setCell ⟨w.heap.size, 3, none⟩ (.string v.s)).setCell ⟨w.heap.size, 4, none⟩ (.slice v.a v.l v.c)).heap.size = wr.heap.size := setCells_size w.heap.size v.cells 0 wr
  refine ⟨⟨v, rfl, ?_⟩, bel5 hB (Nat.le_refl _) _ _ _ _ _⟩
  exact (TOwn.setCell (TOwn.setCell (TOwn.setCell (TOwn.setCell (TOwn.setCell hT hl) hl) hl) hl) hl).mono _ (fun b hb => ⟨by omega, by rw [hszs]; exact hb.2⟩)
def zvv : VV := ⟨0, 0, 0, ⟨#[]⟩, none, 0, 0⟩
theorem zero_own (w : World) (S : Nat → Prop) : TOwn w zeroT zvv S := own_atom w S zeroT rfl
theorem ba_beq3 (x y : ByteArray) : (x == y) = decide (x.data.toList = y.data.toList) := by
  rw [ba_beq]
  by_cases h : x = y
  · subst h; simp
  · rw [decide_eq_false h, decide_eq_false (fun e => h (by rw [← ba_data' x, e, ba_data']))]
set_option maxRecDepth 100000 in
set_option maxHeartbeats 4000000 in
theorem ptop_gen (s : ByteArray) (hs : s.size ≤ 1000000) (hlen : (textT (parseP 8 s.data.toList).1).length ≤ 1000000) (w : World) (hB : Base w) (hT : Tabs w) :
    Calls Tryz.prog 9 #[.string s] w (TopPost w (ParseP s.data.toList)) := by
  have HX : Hid ((w.alloc (.cells #[.int .i64 0, .int .i64 0, .float .f64 0, .string ⟨#[]⟩, .slice none 0 0] 26)).heap[w.heap.size]? = some (.cells #[.int .i64 0, .int .i64 0, .float .f64 0, .string ⟨#[]⟩, .slice none 0 0] 26 (0, 0))) := heap_alloc_new _ _
  have HB1 : Hid (Below w.heap.size w (w.alloc (.cells #[.int .i64 0, .int .i64 0, .float .f64 0, .string ⟨#[]⟩, .slice none 0 0] 26))) := (Below.refl _ _).alloc (Nat.le_refl _) _
  have hsz1 : (w.alloc (.cells #[.int .i64 0, .int .i64 0, .float .f64 0, .string ⟨#[]⟩, .slice none 0 0] 26)).heap.size = w.heap.size + 1 := by simp
  have HPA := Lib.hid (parse_any 8 (Nat.le_refl _) s (by omega) _ (hB.later HB1.out))
  have hok := parseP_ok 8 s.data.toList (by rw [← Lib.size_eq]; unfold maxLen; omega)
  obtain ⟨p, hp⟩ : ∃ p, p = parseP 8 s.data.toList := ⟨_, rfl⟩
  have hPP : ParseP s.data.toList = if s.data.toList ≠ [] ∧ textTop p.1 = s.data.toList then (p.1, true) else (zeroT, false) := by rw [hp]; rfl
  rw [← hp] at HPA hok hlen
  have HVT : Hid (∀ (v : VV) (S : Nat → Prop) (W : World), Below w.heap.size w W → TRead W S p.1 v → Calls Tryz.prog 12 #[v.val] W fun e w' => e = .returned (.string ⟨(textTop p.1).toArray⟩) ∧ Below W.heap.size W w') :=
    fun v S W hW hv => vtop_any p.1 v S W hv hok.1 (fun _ => hlen) (hT.later hW)
  obtain ⟨tt, htt⟩ : ∃ tt : ByteArray, tt = ⟨(textTop p.1).toArray⟩ := ⟨_, rfl⟩
  rw [← htt] at HVT
  have hiff : textTop p.1 = s.data.toList ↔ tt = s := ⟨fun h => by rw [htt, h, ba_data'], fun h => by rw [← h, htt]⟩
  have HPQ : Hid (ParseP s.data.toList = if s.data.toList ≠ [] ∧ tt = s then (p.1, true) else (zeroT, false)) := by
    rw [Hid, hPP]
    by_cases h : tt = s
    · simp [hiff.2 h, h]
    · have h2 : ¬ textTop p.1 = s.data.toList := fun e => h (hiff.1 e)
      simp [h2, h]
  clear hPP hiff htt hlen hok hp hB hT
  generalize ParseP s.data.toList = R at *
  go_enter Tryz.func9, Tryz.ntmps9
  go_upto_region 1 with fail
  generalize (w.alloc (.cells #[.int .i64 0, .int .i64 0, .float .f64 0, .string ⟨#[]⟩, .slice none 0 0] 26)) = wd at *
  go_wp2_with fail
  refine HPA.out.mono ?_
  rintro e w3 ⟨⟨v, rfl, hv⟩, hb⟩
  clear HPA
  obtain ⟨vk, vn, vf, vs, va, vl, vc⟩ := v
  dsimp only at hv ⊢
  go_upto_region 2 with fail
  have HV4 : Hid ((w3.alloc (.cells #[.int .i64 vk, .int .i64 vn, .float .f64 vf, .string vs, .slice va vl vc] 26)).heap[w3.heap.size]? = some (.cells #[.int .i64 vk, .int .i64 vn, .float .f64 vf, .string vs, .slice va vl vc] 26 (0, 0))) := heap_alloc_new _ _
  have HZ4 : Hid ((w3.alloc (.cells #[.int .i64 vk, .int .i64 vn, .float .f64 vf, .string vs, .slice va vl vc] 26)).heap[w.heap.size]? = some (.cells #[.int .i64 0, .int .i64 0, .float .f64 0, .string ⟨#[]⟩, .slice none 0 0] 26 (0, 0))) := (Below.heap_alloc _ _ _ (Nat.lt_of_lt_of_le (lt_of_heap HX.out) hb.size)).trans ((hb.block _ (lt_of_heap HX.out)).trans HX.out)
  have HB4 : Hid (Below w.heap.size w (w3.alloc (.cells #[.int .i64 vk, .int .i64 vn, .float .f64 vf, .string vs, .slice va vl vc] 26))) := (HB1.out.trans (hb.mono HB1.out.size)).alloc (Nat.le_trans HB1.out.size hb.size) _
  have HU4 : Hid (TOwn (w3.alloc (.cells #[.int .i64 vk, .int .i64 vn, .float .f64 vf, .string vs, .slice va vl vc] 26)) p.1 ⟨vk, vn, vf, vs, va, vl, vc⟩ (fun b => w.heap.size + 1 ≤ b ∧ b < (w3.alloc (.cells #[.int .i64 vk, .int .i64 vn, .float .f64 vf, .string vs, .slice va vl vc] 26)).heap.size)) :=
    (hv.frame _ (fun k hk _ => Below.heap_alloc _ _ _ hk.2)).mono _ (fun b hb => ⟨by rw [hsz1] at hb; exact hb.1, by simp only [World.size_alloc]; omega⟩)
  have HL4 := Lib.hid (Nat.le_trans HB1.out.size hb.size)
  clear hv hb
  generalize (w3.alloc (.cells #[.int .i64 vk, .int .i64 vn, .float .f64 vf, .string vs, .slice va vl vc] 26)) = w4 at *
  by_cases hnil : s.data.toList = []
  · have hie : s.toList.isEmpty = true := by rw [ByteArray.toList_eq, hnil]; rfl
    obtain rfl : R = (zeroT, false) := by rw [HPQ.out, if_neg (fun h => h.1 hnil)]
    clear HPQ HVT hnil
    have hc0 := cellAt HZ4.out 0 (v := .int .i64 0) rfl
    have hc1 := cellAt HZ4.out 1 (v := .int .i64 0) rfl
    have hc2 := cellAt HZ4.out 2 (v := .float .f64 0) rfl
    have hc3 := cellAt HZ4.out 3 (v := .string ⟨#[]⟩) rfl
    have hc4 := cellAt HZ4.out 4 (v := .slice none 0 0) rfl
    have hf0 := freeAt HZ4.out 0
    have hf1 := freeAt HZ4.out 1
    have hf2 := freeAt HZ4.out 2
    have hf3 := freeAt HZ4.out 3
    have hf4 := freeAt HZ4.out 4
    go_wp2_with fail
    refine top_post (f := Tryz.f9) (v := zvv) (b := false) (t := zeroT) rfl HZ4.out HB4.out (zero_own _ _) ?_ ?_ ?_ <;> rfl
  · obtain ⟨c, r, hsr⟩ : ∃ c r, s.data.toList = c :: r := by
      cases hd : s.data.toList with
      | nil => exact absurd hd hnil
      | cons a b => exact ⟨a, b, rfl⟩
    have hie := (head_ba hsr).2
    have HC := Lib.hid (HVT.out ⟨vk, vn, vf, vs, va, vl, vc⟩ _ w4 HB4.out HU4.out.read)
    dsimp only [VV.val] at HC
    clear hsr HVT
    obtain ⟨hx0, hx1, hx2, hx3, hx4⟩ := cells5 HV4.out
    by_cases hts : tt = s
    · obtain rfl : R = (p.1, true) := by rw [HPQ.out, if_pos ⟨hnil, hts⟩]
      have hq1 : (tt.toList == s.toList) = true := by rw [hts]; simp
      have hq2 : (tt.toList != s.toList) = false := by rw [hts]; simp
      clear HPQ hnil hts
      go_wp2_with fail
      refine HC.out.mono ?_
      rintro e w5 ⟨rfl, hb5⟩
      have HB5 := Lib.hid (HB4.out.trans (hb5.mono HB4.out.size))
      have HZ5 := Lib.hid ((hb5.block _ (lt_of_heap HZ4.out)).trans HZ4.out)
      have HV5 := Lib.hid ((hb5.block _ (lt_of_heap HV4.out)).trans HV4.out)
      have HU5 : Hid (TOwn w5 p.1 ⟨vk, vn, vf, vs, va, vl, vc⟩ (fun b => w.heap.size + 1 ≤ b ∧ b < w5.heap.size)) :=
        (HU4.out.frame _ (fun k hk _ => hb5.block k hk.2)).mono _ (fun b hb => ⟨hb.1, Nat.lt_of_lt_of_le hb.2 hb5.size⟩)
      clear hb5 HC hx0 hx1 hx2 hx3 hx4
      obtain ⟨hx0, hx1, hx2, hx3, hx4⟩ := cells5 HV5.out
      have hc0 := cellAt HZ5.out 0 (v := .int .i64 0) rfl
      have hc1 := cellAt HZ5.out 1 (v := .int .i64 0) rfl
      have hc2 := cellAt HZ5.out 2 (v := .float .f64 0) rfl
      have hc3 := cellAt HZ5.out 3 (v := .string ⟨#[]⟩) rfl
      have hc4 := cellAt HZ5.out 4 (v := .slice none 0 0) rfl
      have hf0 := freeAt HZ5.out 0
      have hf1 := freeAt HZ5.out 1
      have hf2 := freeAt HZ5.out 2
      have hf3 := freeAt HZ5.out 3
      have hf4 := freeAt HZ5.out 4
      go_wp2_with fail
      refine top_post (f := Tryz.f9) (v := ⟨vk, vn, vf, vs, va, vl, vc⟩) (b := true) (t := p.1) rfl HZ5.out HB5.out HU5.out ?_ ?_ ?_ <;> rfl
    · obtain rfl : R = (zeroT, false) := by rw [HPQ.out, if_neg (fun h => hts h.2)]
      have hq0 := ba_beq tt s
      rw [decide_eq_false hts, beq_toListBytes] at hq0
      have hq2 : (tt.toList != s.toList) = true := by rw [bne, hq0]; rfl
      clear HPQ hnil hts
      go_wp2_with fail
      refine HC.out.mono ?_
      rintro e w5 ⟨rfl, hb5⟩
      have HB5 := Lib.hid (HB4.out.trans (hb5.mono HB4.out.size))
      have HZ5 := Lib.hid ((hb5.block _ (lt_of_heap HZ4.out)).trans HZ4.out)
      clear hb5 HC hx0 hx1 hx2 hx3 hx4
      have hc0 := cellAt HZ5.out 0 (v := .int .i64 0) rfl
      have hc1 := cellAt HZ5.out 1 (v := .int .i64 0) rfl
      have hc2 := cellAt HZ5.out 2 (v := .float .f64 0) rfl
      have hc3 := cellAt HZ5.out 3 (v := .string ⟨#[]⟩) rfl
      have hc4 := cellAt HZ5.out 4 (v := .slice none 0 0) rfl
      have hf0 := freeAt HZ5.out 0
      have hf1 := freeAt HZ5.out 1
      have hf2 := freeAt HZ5.out 2
      have hf3 := freeAt HZ5.out 3
      have hf4 := freeAt HZ5.out 4
      go_wp2_with fail
      refine top_post (f := Tryz.f9) (v := zvv) (b := false) (t := zeroT) rfl HZ5.out HB5.out (zero_own _ _) ?_ ?_ ?_ <;> rfl
theorem ptop_any (s : ByteArray) (hs : s.size ≤ 9000) (w : World) (hB : Base w) (hT : Tabs w) :
    Calls Tryz.prog 9 #[.string s] w (TopPost w (ParseP s.data.toList)) := by
  have hln := parseP_len 8 s.data.toList
  rw [← Lib.size_eq] at hln
  exact ptop_gen s (by omega) (by omega) w hB hT
set_option maxRecDepth 100000 in
set_option maxHeartbeats 4000000 in
theorem rptop_any (s : ByteArray) (hs : s.size ≤ 9000) (w : World) :
    Calls Tryz.prog 10 #[.string s] w (TopPost w (ParseR s.data.toList)) := by
  have HX : Hid ((w.alloc (.cells #[.int .i64 0, .int .i64 0, .float .f64 0, .string ⟨#[]⟩, .slice none 0 0] 26)).heap[w.heap.size]? = some (.cells #[.int .i64 0, .int .i64 0, .float .f64 0, .string ⟨#[]⟩, .slice none 0 0] 26 (0, 0))) := heap_alloc_new _ _
  have HB1 : Hid (Below w.heap.size w (w.alloc (.cells #[.int .i64 0, .int .i64 0, .float .f64 0, .string ⟨#[]⟩, .slice none 0 0] 26))) := (Below.refl _ _).alloc (Nat.le_refl _) _
  have hsz1 : (w.alloc (.cells #[.int .i64 0, .int .i64 0, .float .f64 0, .string ⟨#[]⟩, .slice none 0 0] 26)).heap.size = w.heap.size + 1 := by simp
  have HPA := Lib.hid (rparse_any 8 (Nat.le_refl _) s (by omega) (w.alloc (.cells #[.int .i64 0, .int .i64 0, .float .f64 0, .string ⟨#[]⟩, .slice none 0 0] 26)))
  have hok := parseR_ok 8 s.data.toList (by rw [← Lib.size_eq]; unfold maxLen; omega)
  have hln := parseR_len 8 s.data.toList
  obtain ⟨p, hp⟩ : ∃ p, p = parseR 8 s.data.toList := ⟨_, rfl⟩
  have hPP : ParseR s.data.toList = if p.2.2 = true ∧ p.2.1 = [] ∧ textTop p.1 = s.data.toList then (p.1, true) else (zeroT, false) := by rw [hp]; rfl
  rw [← hp] at HPA hok hln
  have hlen : (textT p.1).length ≤ 1000000 := by rw [← Lib.size_eq] at hln; omega
  have HVT : Hid (∀ (v : VV) (S : Nat → Prop) (W : World), Below w.heap.size w W → TRead W S p.1 v → Calls Tryz.prog 21 #[v.val] W fun e w' => e = .returned (.string ⟨(textTop p.1).toArray⟩) ∧ Below W.heap.size W w') :=
    fun v S W hW hv => rtop_any p.1 v S W hv hok.1 (fun _ => hlen)
  obtain ⟨tt, htt⟩ : ∃ tt : ByteArray, tt = ⟨(textTop p.1).toArray⟩ := ⟨_, rfl⟩
  rw [← htt] at HVT
  have hiff : textTop p.1 = s.data.toList ↔ tt = s := ⟨fun h => by rw [htt, h, ba_data'], fun h => by rw [← h, htt]⟩
  have HPQ : Hid (ParseR s.data.toList = if p.2.2 = true ∧ p.2.1 = [] ∧ tt = s then (p.1, true) else (zeroT, false)) := by
    rw [Hid, hPP]
    by_cases h : tt = s
    · simp [hiff.2 h, h]
    · have h2 : ¬ textTop p.1 = s.data.toList := fun e => h (hiff.1 e)
      simp [h2, h]
  clear hPP hiff htt hlen hln hok hp
  generalize ParseR s.data.toList = R at *
  go_enter Tryz.func10, Tryz.ntmps10
  go_upto_region 1 with fail
  generalize (w.alloc (.cells #[.int .i64 0, .int .i64 0, .float .f64 0, .string ⟨#[]⟩, .slice none 0 0] 26)) = wd at *
  go_wp2_with fail
  refine HPA.out.mono ?_
  rintro e w3 ⟨⟨v, rfl, hv⟩, hb⟩
  clear HPA
  obtain ⟨vk, vn, vf, vs, va, vl, vc⟩ := v
  dsimp only at hv ⊢
  go_upto_region 2 with fail
  have HV4 : Hid ((w3.alloc (.cells #[.int .i64 vk, .int .i64 vn, .float .f64 vf, .string vs, .slice va vl vc] 26)).heap[w3.heap.size]? = some (.cells #[.int .i64 vk, .int .i64 vn, .float .f64 vf, .string vs, .slice va vl vc] 26 (0, 0))) := heap_alloc_new _ _
  have HZ4 : Hid ((w3.alloc (.cells #[.int .i64 vk, .int .i64 vn, .float .f64 vf, .string vs, .slice va vl vc] 26)).heap[w.heap.size]? = some (.cells #[.int .i64 0, .int .i64 0, .float .f64 0, .string ⟨#[]⟩, .slice none 0 0] 26 (0, 0))) := (Below.heap_alloc _ _ _ (Nat.lt_of_lt_of_le (lt_of_heap HX.out) hb.size)).trans ((hb.block _ (lt_of_heap HX.out)).trans HX.out)
  have HB4 : Hid (Below w.heap.size w (w3.alloc (.cells #[.int .i64 vk, .int .i64 vn, .float .f64 vf, .string vs, .slice va vl vc] 26))) := (HB1.out.trans (hb.mono HB1.out.size)).alloc (Nat.le_trans HB1.out.size hb.size) _
  have HU4 : Hid (TOwn (w3.alloc (.cells #[.int .i64 vk, .int .i64 vn, .float .f64 vf, .string vs, .slice va vl vc] 26)) p.1 ⟨vk, vn, vf, vs, va, vl, vc⟩ (fun b => w.heap.size + 1 ≤ b ∧ b < (w3.alloc (.cells #[.int .i64 vk, .int .i64 vn, .float .f64 vf, .string vs, .slice va vl vc] 26)).heap.size)) :=
    (hv.frame _ (fun k hk _ => Below.heap_alloc _ _ _ hk.2)).mono _ (fun b hb => ⟨by rw [hsz1] at hb; exact hb.1, by simp only [World.size_alloc]; omega⟩)
  have HL4 := Lib.hid (Nat.le_trans HB1.out.size hb.size)
  clear hv hb
  generalize (w3.alloc (.cells #[.int .i64 vk, .int .i64 vn, .float .f64 vf, .string vs, .slice va vl vc] 26)) = w4 at *
  obtain ⟨pt, pr, pb⟩ := p
  dsimp only at *
  cases pb with
  | false =>
    obtain rfl : R = (zeroT, false) := by rw [HPQ.out, if_neg (fun h => by cases h.1)]
    clear HPQ HVT
    have hc0 := cellAt HZ4.out 0 (v := .int .i64 0) rfl
    have hc1 := cellAt HZ4.out 1 (v := .int .i64 0) rfl
    have hc2 := cellAt HZ4.out 2 (v := .float .f64 0) rfl
    have hc3 := cellAt HZ4.out 3 (v := .string ⟨#[]⟩) rfl
    have hc4 := cellAt HZ4.out 4 (v := .slice none 0 0) rfl
    have hf0 := freeAt HZ4.out 0
    have hf1 := freeAt HZ4.out 1
    have hf2 := freeAt HZ4.out 2
    have hf3 := freeAt HZ4.out 3
    have hf4 := freeAt HZ4.out 4
    go_wp2_with fail
    refine top_post (f := Tryz.f10) (v := zvv) (b := false) (t := zeroT) rfl HZ4.out HB4.out (zero_own _ _) ?_ ?_ ?_ <;> rfl
  | true =>
    obtain ⟨rs, hrs⟩ : ∃ rs : ByteArray, rs = ⟨pr.toArray⟩ := ⟨_, rfl⟩
    rw [← hrs]
    rcases pr with - | ⟨d, q⟩
    · have hie : rs.toList.isEmpty = true := by rw [ByteArray.toList_eq, hrs]; rfl
      have HC := Lib.hid (HVT.out ⟨vk, vn, vf, vs, va, vl, vc⟩ _ w4 HB4.out HU4.out.read)
      dsimp only [VV.val] at HC
      clear hrs HVT
      obtain ⟨hx0, hx1, hx2, hx3, hx4⟩ := cells5 HV4.out
      by_cases hts : tt = s
      · obtain rfl : R = (pt, true) := by rw [HPQ.out, if_pos ⟨rfl, rfl, hts⟩]
        have hq1 : (tt.toList == s.toList) = true := by rw [hts]; simp
        have hq2 : (tt.toList != s.toList) = false := by rw [hts]; simp
        clear HPQ hts
        go_wp2_with fail
        refine HC.out.mono ?_
        rintro e w5 ⟨rfl, hb5⟩
        have HB5 := Lib.hid (HB4.out.trans (hb5.mono HB4.out.size))
        have HZ5 := Lib.hid ((hb5.block _ (lt_of_heap HZ4.out)).trans HZ4.out)
        have HV5 := Lib.hid ((hb5.block _ (lt_of_heap HV4.out)).trans HV4.out)
        have HU5 : Hid (TOwn w5 pt ⟨vk, vn, vf, vs, va, vl, vc⟩ (fun b => w.heap.size + 1 ≤ b ∧ b < w5.heap.size)) :=
          (HU4.out.frame _ (fun k hk _ => hb5.block k hk.2)).mono _ (fun b hb => ⟨hb.1, Nat.lt_of_lt_of_le hb.2 hb5.size⟩)
        clear hb5 HC hx0 hx1 hx2 hx3 hx4
        obtain ⟨hx0, hx1, hx2, hx3, hx4⟩ := cells5 HV5.out
        have hc0 := cellAt HZ5.out 0 (v := .int .i64 0) rfl
        have hc1 := cellAt HZ5.out 1 (v := .int .i64 0) rfl
        have hc2 := cellAt HZ5.out 2 (v := .float .f64 0) rfl
        have hc3 := cellAt HZ5.out 3 (v := .string ⟨#[]⟩) rfl
        have hc4 := cellAt HZ5.out 4 (v := .slice none 0 0) rfl
        have hf0 := freeAt HZ5.out 0
        have hf1 := freeAt HZ5.out 1
        have hf2 := freeAt HZ5.out 2
        have hf3 := freeAt HZ5.out 3
        have hf4 := freeAt HZ5.out 4
        go_wp2_with fail
        refine top_post (f := Tryz.f10) (v := ⟨vk, vn, vf, vs, va, vl, vc⟩) (b := true) (t := pt) rfl HZ5.out HB5.out HU5.out ?_ ?_ ?_ <;> rfl
      · obtain rfl : R = (zeroT, false) := by rw [HPQ.out, if_neg (fun h => hts h.2.2)]
        have hq0 := ba_beq tt s
        rw [decide_eq_false hts, beq_toListBytes] at hq0
        have hq2 : (tt.toList != s.toList) = true := by rw [bne, hq0]; rfl
        clear HPQ hts
        go_wp2_with fail
        refine HC.out.mono ?_
        rintro e w5 ⟨rfl, hb5⟩
        have HB5 := Lib.hid (HB4.out.trans (hb5.mono HB4.out.size))
        have HZ5 := Lib.hid ((hb5.block _ (lt_of_heap HZ4.out)).trans HZ4.out)
        clear hb5 HC hx0 hx1 hx2 hx3 hx4
        have hc0 := cellAt HZ5.out 0 (v := .int .i64 0) rfl
        have hc1 := cellAt HZ5.out 1 (v := .int .i64 0) rfl
        have hc2 := cellAt HZ5.out 2 (v := .float .f64 0) rfl
        have hc3 := cellAt HZ5.out 3 (v := .string ⟨#[]⟩) rfl
        have hc4 := cellAt HZ5.out 4 (v := .slice none 0 0) rfl
        have hf0 := freeAt HZ5.out 0
        have hf1 := freeAt HZ5.out 1
        have hf2 := freeAt HZ5.out 2
        have hf3 := freeAt HZ5.out 3
        have hf4 := freeAt HZ5.out 4
        go_wp2_with fail
        refine top_post (f := Tryz.f10) (v := zvv) (b := false) (t := zeroT) rfl HZ5.out HB5.out (zero_own _ _) ?_ ?_ ?_ <;> rfl
    · have hie : rs.toList.isEmpty = false := by rw [ByteArray.toList_eq, hrs]; rfl
      obtain rfl : R = (zeroT, false) := by rw [HPQ.out, if_neg (fun h => by cases h.2.1)]
      clear HPQ HVT hrs
      have hc0 := cellAt HZ4.out 0 (v := .int .i64 0) rfl
      have hc1 := cellAt HZ4.out 1 (v := .int .i64 0) rfl
      have hc2 := cellAt HZ4.out 2 (v := .float .f64 0) rfl
      have hc3 := cellAt HZ4.out 3 (v := .string ⟨#[]⟩) rfl
      have hc4 := cellAt HZ4.out 4 (v := .slice none 0 0) rfl
      have hf0 := freeAt HZ4.out 0
      have hf1 := freeAt HZ4.out 1
      have hf2 := freeAt HZ4.out 2
      have hf3 := freeAt HZ4.out 3
      have hf4 := freeAt HZ4.out 4
      go_wp2_with fail
      refine top_post (f := Tryz.f10) (v := zvv) (b := false) (t := zeroT) rfl HZ4.out HB4.out (zero_own _ _) ?_ ?_ ?_ <;> rfl
end Go.Proofs.YtpijpeocdlnhiaaGreatDoor
