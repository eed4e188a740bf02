/- Texts for programTexts_holds, joined: PText1, PAlive, PLimits, PGiven, PInj. -/
import Derived.Test.YtpijpeocdlnhiaaGreatDoorTp05
import Derived.Lib.ItoaMem
set_option linter.unusedVariables false
set_option linter.unusedSimpArgs false
namespace Go.Proofs.YtpijpeocdlnhiaaGreatDoor
open Go.RowKit
set_option maxRecDepth 100000 in
set_option maxHeartbeats 2000000 in
theorem join_none (sep : ByteArray) (w : World) : Calls Tryz.prog 91 #[.slice none 0 0, .string sep] w fun e w' => e = .returned (.string ⟨#[]⟩) ∧ Below w.heap.size w w' := by
  go_enter Tryz.func91, Tryz.ntmps91
  go_wp2
  go_ret
  exact ⟨rfl, Below.refl _ _⟩
theorem joinB_nil (sep : ByteArray) : joinB [] sep = ⟨#[]⟩ := by unfold joinB; rw [List.map_nil]; simp [Lib.join]
set_option maxRecDepth 100000 in
set_option maxHeartbeats 2000000 in
theorem joinS_none (r : RT) (sep : ByteArray) (w : World) (h : Reads w r.v r.l.length 3 (r.l.flatMap stcells)) (hl : r.l.length = 0) :
    Calls Tryz.prog 57 #[r.v, .string sep, .func (.func 58) #[] #[]] w fun e w' => e = .returned (.string (joinB [] sep)) ∧ Below w.heap.size w w' := by
  obtain ⟨rl, ra, rc⟩ := r
  simp only [RT.v] at *
  obtain rfl : rl = [] := List.eq_nil_of_length_eq_zero hl
  clear h hl
  simp only [List.length_nil]
  go_enter Tryz.func57, Tryz.ntmps57
  go_wp2_with fail
  go_loopw [7, 12] (fun out i w' => out = .slice none 0 0 ∧ i = .int .i64 0 ∧ w' = w) (fun _ _ _ => 0)
  case atStart => exact ⟨rfl, rfl, rfl⟩
  case round =>
    obtain ⟨rfl, rfl, rfl⟩ := hrel
    go_wp2_with fail
    refine (join_none sep _).mono ?_
    rintro e w5 ⟨rfl, hb5⟩
    have HB5 := Lib.hid hb5
    clear hb5
    go_wp2
    go_ret
    refine ⟨?_, HB5.out⟩
    rw [joinB_nil]; rfl
def semi : ByteArray := ⟨#[59, 32]⟩
def bar : ByteArray := ⟨#[32, 124, 32]⟩
def textR (tx : ST → ByteArray) (r : RT) : ByteArray := joinB (r.l.map tx) semi
def Says (tx : ST → ByteArray) (w : World) (r : RT) : Prop := ∀ x ∈ r.l, ∀ W, Below w.heap.size w W → Calls Tryz.prog 58 #[x.val] W fun e w' => e = .returned (.string (tx x)) ∧ Below W.heap.size W w'
def Short (l : List ByteArray) (sep : ByteArray) : Prop := (Lib.join (l.map (·.data.toList)) sep.data.toList).length ≤ 140737488355328
set_option maxRecDepth 100000 in
set_option maxHeartbeats 2000000 in
theorem text1_any (tx : ST → ByteArray) (r : RT) (w : World) (h : Reads w r.v r.l.length 3 (r.l.flatMap stcells)) (hl : r.l.length ≤ 100000) (hlen : Short (r.l.map tx) semi) (hg : Says tx w r) :
    Calls Tryz.prog 56 #[r.v] w fun e w' => e = .returned (.string (textR tx r)) ∧ Below w.heap.size w w' := by
  have HJ : Hid (Calls Tryz.prog 57 #[r.v, .string semi, .func (.func 58) #[] #[]] w fun e w' => e = .returned (.string (textR tx r)) ∧ Below w.heap.size w w') := by
    rw [Hid]
    by_cases h0 : r.l.length = 0
    · have := joinS_none r semi w h h0
      have h1 : textR tx r = joinB [] semi := by rw [textR, List.eq_nil_of_length_eq_zero h0]; rfl
      rw [h1]; exact this
    · exact joinS_any tx r semi w h ⟨by omega, hl⟩ hlen hg
  clear h hlen hg
  generalize r.v = v at *
  go_enter Tryz.func56, Tryz.ntmps56
  go_wp2_with fail
  refine HJ.out.mono ?_
  rintro e w5 ⟨rfl, hb5⟩
  have HB5 := Lib.hid hb5
  clear hb5 HJ
  go_wp2
  go_ret
  exact ⟨rfl, HB5.out⟩
set_option maxRecDepth 100000 in
set_option maxHeartbeats 2000000 in
theorem joinR_any (tx : ST → ByteArray) (a : Option Addr) (c : Nat) (P : List RT) (sep : ByteArray) (w : World) (h : Prg w (.slice a P.length c) P) (hl : 0 < P.length ∧ P.length ≤ 100000) (hll : ∀ r ∈ P, r.l.length ≤ 100000) (hlen : Short (P.map (textR tx)) sep) (hls : ∀ r ∈ P, Short (r.l.map tx) semi)
    (hg : ∀ r ∈ P, Says tx w r) :
    Calls Tryz.prog 55 #[.slice a P.length c, .string sep, .func (.func 56) #[] #[]] w fun e w' => e = .returned (.string (joinB (P.map (textR tx)) sep)) ∧ Below w.heap.size w w' := by
  have HP := Lib.hid h
  have HG : Hid (∀ r ∈ P, ∀ W, Below w.heap.size w W → Calls Tryz.prog 56 #[r.v] W fun e w' => e = .returned (.string (textR tx r)) ∧ Below W.heap.size W w') :=
    fun r hr W hW => text1_any tx r W ((h.each r hr).later hW) (hll r hr) (hls r hr) (fun x hx W2 h2 => hg r hr x hx W2 (hW.trans (h2.mono hW.size)))
  have HLEN := Lib.hid hlen
  have HTK : Hid (∀ m (hm : m < P.length), (P.take (m + 1)).map (textR tx) = (P.take m).map (textR tx) ++ [textR tx P[m]]) := fun m hm => by
    rw [List.take_succ_eq_append_getElem hm, List.map_append]; rfl
  clear h hg hlen hls hll
  generalize textR tx = tr at *
  go_enter Tryz.func55, Tryz.ntmps55
  go_wp2_with fail
  go_loopw [7, 12] (fun out i w' => ∃ m : Nat, m ≤ P.length ∧ i = .int .i64 m ∧ Hid (Row w' 9 1 out m (((P.take m).map tr).map Value.string) (fun k => w.heap.size ≤ k)) ∧ Hid (Below w.heap.size w w')) (fun _ i _ => P.length - (RowKit.intOf i).toNat)
  case atStart => exact ⟨0, by omega, rfl, Row.nil _ _ _ _, Below.refl _ _⟩
  case round =>
    obtain ⟨m, hm, rfl, HO, HB⟩ := hrel
    by_cases hlt : m < P.length
    · obtain ⟨b, o, c', hv, hle, hbl, hcell⟩ := (HP.out.later HB.out).rd.at (by omega)
      cases hv
      have hc := hcell m (RT.v P[m]) (by rw [List.getElem?_map, List.getElem?_eq_getElem hlt]; rfl)
      have HGW := Lib.hid (HG.out P[m] (List.getElem_mem hlt) wr HB.out)
      have HTM := Lib.hid (HTK.out m hlt)
      have hl2 := HP.out.ll P[m] (List.getElem_mem hlt)
      clear hcell
      generalize tr P[m] = key at *
      unfold RT.v at hc HGW
      generalize P[m] = r at *
      obtain ⟨rl, ra, rc⟩ := r
      simp only at *
      go_wp2_with fail
      refine HGW.out.mono ?_
      rintro e w4 ⟨rfl, hb4⟩
      have HB4 := Lib.hid (HB.out.trans (hb4.mono HB.out.size))
      have HO4 : Hid (Row w4 9 1 u7 m (((P.take m).map tr).map Value.string) (fun k => w.heap.size ≤ k)) := HO.out.frame (fun k _ hk => hb4.block k hk)
      clear hb4 hc HGW
      have hbl := HB4.out.size
      go_wp2_with (refine wpList_row pelemStr rfl rfl (S := fun k => w.heap.size ≤ k) (n := m) (xs := ((P.take m).map tr).map Value.string) rfl (HO4.out.frame (fun k _ hk => Below.heap_alloc _ _ _ hk)) (y := .slice (some ⟨w4.heap.size, 0, none⟩) 1 1) (m := 1) (news := [.string key]) rfl (reads_one w4 _ _) (one_of rfl) (by unfold maxLen; omega) (by omega) ?_; intro v5 w5 hr5 hch5)
      go_roundw
      case rel =>
        refine ⟨m + 1, by omega, by go_num, ?_, (HB4.out.alloc hbl _).trans (hch5.toBelow (by simp <;> omega) (fun n hn h => by omega))⟩
        rw [Hid, HTM.out, List.map_append]
        exact hr5.mono (fun k hk => by rcases hk with hk | hk; exact hk; simp only [World.size_alloc] at hk; omega)
      case measure => simp [RowKit.intOf]; omega
    · obtain rfl : m = P.length := by omega
      rw [List.take_length] at HO
      obtain ⟨bk, o, c', he, hcap, hbk, hcell⟩ := HO.out.reads.at (by omega)
      subst he
      generalize hxs : P.map tr = xs at *
      have hlx : xs.length = P.length := by rw [← hxs, List.length_map]
      have hj := Lib.hid (Tryz.strings_Join bk o c' xs sep wr (fun j x hx => hcell j (.string x) (by rw [List.getElem?_map, hx]; rfl)) hbk (by omega) (by omega) HLEN.out)
      rw [hlx] at hj
      clear hcell
      go_wp2_with fail
      refine hj.out.mono ?_
      rintro e w5 ⟨rfl, hb5⟩
      have HB5 := Lib.hid (HB.out.trans (hb5.mono HB.out.size))
      clear hb5 hj HLEN
      go_wp2
      go_ret
      refine ⟨?_, HB5.out⟩
      show _ = Ending.returned (.string (joinB (List.map tr P) sep))
      rw [hxs]; rfl
theorem checked_fine {rb : ST → Nat → Nat → Bool} {P : List RT} {i k : Int} {ok : Bool} (h : Checked rb P i k ok) (hP : 1 ≤ P.length ∧ P.length ≤ 20) (hf : ∀ r ∈ P, fineR rb P.length r) : i = 0 ∧ k = 0 ∧ ok = true := by
  rcases h with ⟨h1, _⟩ | ⟨_, _, h | ⟨m, hm, rfl, rfl, _, h⟩⟩
  · omega
  · exact h.2
  · have hr := hf P[m] (List.getElem_mem hm)
    rcases h with ⟨h1, _⟩ | ⟨_, q, hq, _, h1, _⟩
    · have := hr.1; omega
    · have := hr.2 P[m].l[q] (List.getElem_mem hq)
      rw [this] at h1; cases h1
def textP (tx : ST → ByteArray) (P : List RT) : ByteArray := joinB (P.map (textR tx)) bar
set_option maxRecDepth 100000 in
set_option maxHeartbeats 2000000 in
theorem ptext_ok (rb : ST → Nat → Nat → Bool) (tx : ST → ByteArray) (a : Option Addr) (c : Nat) (P : List RT) (w : World) (h : Prg w (.slice a P.length c) P) (hP : 1 ≤ P.length ∧ P.length ≤ 20) (hf : ∀ r ∈ P, fineR rb P.length r)
    (hr : ∀ r ∈ P, ∀ x ∈ r.l, ∀ W, Calls Tryz.prog 53 #[x.val, .int .i64 P.length, .int .i64 r.l.length] W fun e w' => e = .returned (.bool (rb x P.length r.l.length)) ∧ Below W.heap.size W w')
    (hlen : Short (P.map (textR tx)) bar) (hls : ∀ r ∈ P, Short (r.l.map tx) semi) (hg : ∀ r ∈ P, Says tx w r) :
    Calls Tryz.prog 30 #[.slice a P.length c] w fun e w' => e = .returned (.string (textP tx P)) ∧ Below w.heap.size w w' := by
  have HC : Hid (Calls Tryz.prog 27 #[.slice a P.length c] w fun e w' => e = .returned (.tuple #[.int .i64 0, .int .i64 0, .bool true]) ∧ Below w.heap.size w w') := by
    rw [Hid]
    refine (check_any rb a c P w h (by omega) hr).mono ?_
    rintro e w' ⟨i, k, ok, rfl, hch, hb⟩
    obtain ⟨rfl, rfl, rfl⟩ := checked_fine hch hP hf
    exact ⟨rfl, hb⟩
  have HJ : Hid (∀ W, Below w.heap.size w W → Calls Tryz.prog 55 #[.slice a P.length c, .string bar, .func (.func 56) #[] #[]] W fun e w' => e = .returned (.string (textP tx P)) ∧ Below W.heap.size W w') :=
    fun W hW => joinR_any tx a c P bar W (h.later hW) (by omega) (fun r hr => by have := (hf r hr).1; omega) hlen hls (fun r hr x hx W2 h2 => hg r hr x hx W2 (hW.trans (h2.mono hW.size)))
  clear h hf hr hlen hls hg
  go_enter Tryz.func30, Tryz.ntmps30
  go_wp2_with fail
  refine HC.out.mono ?_
  rintro e w2 ⟨rfl, hb2⟩
  have HB2 := Lib.hid hb2
  have HJ2 := Lib.hid (HJ.out w2 hb2)
  clear hb2 HJ HC
  go_wp2_with fail
  refine HJ2.out.mono ?_
  rintro e w3 ⟨rfl, hb3⟩
  have HB3 := Lib.hid (HB2.out.trans (hb3.mono HB2.out.size))
  clear hb3
  go_wp2
  go_ret
  exact ⟨rfl, HB3.out⟩
def rb0 (x : ST) (np nl : Nat) : Bool := if x.k = 3 then decide (x.n = 0) && decide (x.s.size ≤ 1000) && !decide (x.s = ⟨#[]⟩) else decide (x.n = 0) && decide (x.s = ⟨#[]⟩)
theorem rb0_right (x : ST) (hk : x.k = 3 ∨ x.k = 7 ∨ x.k = 11) (np nl : Nat) (h1 : np ≤ 1000000) (h2 : nl ≤ 1000000) (W : World) :
    Calls Tryz.prog 53 #[x.val, .int .i64 np, .int .i64 nl] W fun e w' => e = .returned (.bool (rb0 x np nl)) ∧ Below W.heap.size W w' := by
  obtain ⟨k, n, s⟩ := x
  simp only at hk
  by_cases h : k = 3
  · subst h
    exact right_call 3 (.inl rfl) n s np nl (by omega) W
  · have := right_bare k (by rcases hk with h3 | h3; exact absurd h3 h; exact h3) n s np nl (by omega) W
    have e : rb0 ⟨k, n, s⟩ np nl = (decide (n = 0) && decide (s = ⟨#[]⟩)) := by unfold rb0; rw [if_neg h]
    rw [e]; exact this
def tx0 (x : ST) : ByteArray := if x.k = 3 then (⟨#[99, 97, 108, 108]⟩ : ByteArray) ++ ((⟨#[32]⟩ : ByteArray) ++ quoted x.s) else ⟨#[100, 111, 110, 101]⟩
def exL : List ST := [⟨3, 0, ⟨#[97]⟩⟩, ⟨11, 0, ⟨#[]⟩⟩]
theorem ex_text : textP tx0 [⟨exL, none, 2⟩] = ⟨#[99, 97, 108, 108, 32, 34, 54, 49, 34, 59, 32, 100, 111, 110, 101]⟩ := by decide +kernel
theorem ex_calls (w : World) (b : Nat) (hw : Words w) (h1 : w.heap[b]? = some (.cells #[.int .i64 3, .int .i64 0, .string ⟨#[97]⟩, .int .i64 11, .int .i64 0, .string ⟨#[]⟩] 82 (0, 0)))
    (h2 : w.heap[b + 1]? = some (.cells #[.slice (some ⟨b, 0, none⟩) 2 2] 83 (0, 0))) :
    Calls Tryz.prog 30 #[.slice (some ⟨b + 1, 0, none⟩) 1 1] w fun e w' => e = .returned (.string ⟨#[99, 97, 108, 108, 32, 34, 54, 49, 34, 59, 32, 100, 111, 110, 101]⟩) ∧ Below w.heap.size w w' := by
  have hp : Prg w (.slice (some ⟨b + 1, 0, none⟩) 1 1) [⟨exL, some ⟨b, 0, none⟩, 2⟩] := by
    refine ⟨Reads.single h2, fun r hr => ?_, fun r hr => ?_⟩
    · rw [List.mem_singleton.1 hr]
      exact Reads.block h1 2 3 rfl
    · rw [List.mem_singleton.1 hr]; show 2 ≤ 1000000; decide
  have e : textP tx0 [⟨exL, some ⟨b, 0, none⟩, 2⟩] = ⟨#[99, 97, 108, 108, 32, 34, 54, 49, 34, 59, 32, 100, 111, 110, 101]⟩ := ex_text
  rw [← e]
  have hk : ∀ x ∈ exL, x.k = 3 ∨ x.k = 7 ∨ x.k = 11 := by decide
  refine ptext_ok rb0 tx0 (some ⟨b + 1, 0, none⟩) 1 [⟨exL, some ⟨b, 0, none⟩, 2⟩] w hp (show 1 ≤ 1 ∧ 1 ≤ 20 by decide) ?_ ?_ ?_ ?_ ?_
  · intro r hr; rw [List.mem_singleton.1 hr]; exact ⟨show 2 ≤ 200 by decide, (by decide : ∀ x ∈ exL, rb0 x 1 2 = true)⟩
  · intro r hr x hx W; rw [List.mem_singleton.1 hr] at hx; rw [List.mem_singleton.1 hr]
    exact rb0_right x (hk x hx) 1 2 (by decide) (by decide) W
  · show (Lib.join [(textR tx0 ⟨exL, none, 2⟩).data.toList] bar.data.toList).length ≤ _; decide +kernel
  · intro r hr; rw [List.mem_singleton.1 hr]; show Short (exL.map tx0) semi; unfold Short; decide +kernel
  · intro r hr x hx W hW; rw [List.mem_singleton.1 hr] at hx
    simp only [exL, List.mem_cons, List.not_mem_nil, or_false] at hx
    rcases hx with rfl | rfl
    · exact stext_call 0 ⟨#[97]⟩ W (hw.later hW) (by decide)
    · exact stext_done 0 ⟨#[]⟩ W (hw.later hW)
set_option maxRecDepth 100000 in
set_option maxHeartbeats 2000000 in
theorem alive_any (w : World) (hw : Words w) :
    Calls Tryz.prog 26 #[] w fun e w' => e = .returned (.bool true) ∧ Below w.heap.size w w' := by
  have h1 : (w.alloc (.cells #[.int .i64 3, .int .i64 0, .string ⟨#[97]⟩, .int .i64 11, .int .i64 0, .string ⟨#[]⟩] 82)).heap[w.heap.size]? = some (.cells #[.int .i64 3, .int .i64 0, .string ⟨#[97]⟩, .int .i64 11, .int .i64 0, .string ⟨#[]⟩] 82 (0, 0)) := heap_alloc_new w _
  have b1 : Below w.heap.size w (w.alloc (.cells #[.int .i64 3, .int .i64 0, .string ⟨#[97]⟩, .int .i64 11, .int .i64 0, .string ⟨#[]⟩] 82)) := (Below.refl _ _).alloc (Nat.le_refl _) _
  have hs : (w.alloc (.cells #[.int .i64 3, .int .i64 0, .string ⟨#[97]⟩, .int .i64 11, .int .i64 0, .string ⟨#[]⟩] 82)).heap.size = w.heap.size + 1 := by simp
  have hT : Hid (∀ wa, wa = w.alloc (.cells #[.int .i64 3, .int .i64 0, .string ⟨#[97]⟩, .int .i64 11, .int .i64 0, .string ⟨#[]⟩] 82) → Calls Tryz.prog 30 #[.slice (some ⟨w.heap.size + 1, 0, none⟩) 1 1] (wa.alloc (.cells #[.slice (some ⟨w.heap.size, 0, none⟩) 2 2] 83)) fun e w' => e = .returned (.string ⟨#[99, 97, 108, 108, 32, 34, 54, 49, 34, 59, 32, 100, 111, 110, 101]⟩) ∧ Below w.heap.size w w') := by
    rintro wa rfl
    have b2 := b1.alloc b1.size (.cells #[.slice (some ⟨w.heap.size, 0, none⟩) 2 2] 83)
    have h2 := heap_alloc_new (w.alloc (.cells #[.int .i64 3, .int .i64 0, .string ⟨#[97]⟩, .int .i64 11, .int .i64 0, .string ⟨#[]⟩] 82)) (.cells #[.slice (some ⟨w.heap.size, 0, none⟩) 2 2] 83)
    rw [hs] at h2
    refine (ex_calls _ w.heap.size (hw.later b2) ((Below.heap_alloc _ _ _ (lt_of_heap h1)).trans h1) h2).mono ?_
    rintro e w' ⟨rfl, hb⟩
    exact ⟨rfl, b2.trans (hb.mono b2.size)⟩
  clear b1
  have HT := Lib.hid (hT.out _ rfl)
  clear h1 hs hT
  go_enter Tryz.func26, Tryz.ntmps26
  go_wp2_with fail
  refine HT.out.mono ?_
  rintro e w3 ⟨rfl, hb3⟩
  have HB3 := Lib.hid hb3
  clear hb3 HT
  go_wp2
  go_ret
  exact ⟨rfl, HB3.out⟩
theorem Row.inside {w : World} {e : TypeId} {size : Nat} {v : Value} {n : Nat} {xs : List Value} {S : Nat → Prop} (h : Row w e size v n xs S) : Row w e size v n xs (fun k => S k ∧ k < w.heap.size) := by
  refine ⟨h.1, ?_⟩
  rcases h.2 with h0 | ⟨g, off, cap, cur, hv, hS, hg, r⟩
  · exact .inl h0
  · exact .inr ⟨g, off, cap, cur, hv, ⟨hS, lt_of_heap hg⟩, hg, r⟩
theorem elemRow : ElemOf Tryz.prog 47 83 (.slice none 0 0) 1 24 := ⟨Tryz.underlying47, by kernel_rfl, rfl, by decide⟩
theorem elemStep : ElemOf Tryz.prog 83 82 (.agg #[.int .i64 0, .int .i64 0, .string ⟨#[]⟩]) 3 32 := ⟨Tryz.underlying83, by kernel_rfl, rfl, by decide⟩
theorem cell_of_block {w w' : World} {p : Addr} (h : w'.heap[p.block]? = w.heap[p.block]?) : w'.cell? p = w.cell? p := by
  unfold World.cell?
  rw [h]
theorem Reads.keepB {w w' : World} {v : Value} {n size : Nat} {xs : List Value} (h : Reads w v n size xs) (hb : ∀ ad c, v = .slice (some ad) n c → w'.heap[ad.block]? = w.heap[ad.block]?) : Reads w' v n size xs := by
  obtain ⟨hl, ao, c, rfl, hnc, hnone, hcells⟩ := h
  refine ⟨hl, ao, c, rfl, hnc, hnone, fun ad had j u hu => ?_⟩
  subst had
  have e : (ad.add j).block = ad.block := by unfold Addr.add; split <;> rfl
  rw [cell_of_block (w := w) (w' := w') (by rw [e]; exact hb ad c rfl)]
  exact hcells ad rfl j u hu
theorem RT.inw.keepB {w w' : World} {r : RT} (h : r.inw w) (hb : ∀ ad, r.a = some ad → w'.heap[ad.block]? = w.heap[ad.block]?) : r.inw w' :=
  ⟨h.rd.keepB (fun ad c he => hb ad (Value.slice.inj he).1), h.ll, h.ok, h.lb⟩
theorem Row.rt {w : World} {e : TypeId} {v : Value} {l : List ST} {S : Nat → Prop} (h : Row w e 3 v l.length (l.flatMap stcells) S) :
    ∃ r2 : RT, r2.l = l ∧ v = r2.v ∧ (∀ ad, r2.a = some ad → S ad.block ∧ ad.block < w.heap.size) ∧ Reads w r2.v r2.l.length 3 (r2.l.flatMap stcells) := by
  have hr := h.reads
  rcases h.2 with ⟨h0, hx⟩ | ⟨g, off, cap, cur, hv, hS, hg, -⟩
  · have hl : l.length = 0 := by obtain ⟨_, ao, c, hv, _, hn, _⟩ := hr; rw [h0] at hv; exact (Value.slice.inj hv).2.1.symm
    obtain rfl : l = [] := List.eq_nil_of_length_eq_zero hl
    subst h0
    exact ⟨⟨[], none, 0⟩, rfl, rfl, (fun ad h => by cases h), hr⟩
  · subst hv
    exact ⟨⟨l, some ⟨g, off, none⟩, cap⟩, rfl, rfl, (fun ad h => by cases h; exact ⟨hS, lt_of_heap hg⟩), hr⟩
structure GivenI (t : TypeId) (w wr : World) (out : Value) (P2 : List RT) (B : List Nat) : Prop where
  row : Row wr t 1 out P2.length (P2.map RT.v) (fun k => w.heap.size ≤ k ∧ k < wr.heap.size ∧ k ∉ B)
  each : ∀ r ∈ P2, r.inw wr ∧ ∀ ad, r.a = some ad → ad.block ∈ B
  blk : ∀ b ∈ B, b < wr.heap.size
def GPost (w : World) (P : List RT) : Ending → World → Prop := fun e w' => ∃ (P2 : List RT) (a2 : Option Addr) (c2 : Nat), e = .returned (.slice a2 P2.length c2) ∧ PrgU w' (.slice a2 P2.length c2) P2 ∧ P2.map RT.l = P.map RT.l ∧ Below w.heap.size w w'
theorem take_l {P P2 : List RT} {m : Nat} (hm : m < P.length) (h : P2.map RT.l = (P.take m).map RT.l) {r : RT} (hr : r.l = P[m].l) : (P2 ++ [r]).map RT.l = (P.take (m + 1)).map RT.l := by
  rw [List.take_succ_eq_append_getElem hm, List.map_append, List.map_append, h]; simp [hr]
theorem given_step {t : TypeId} {w wr w1 w5 : World} {out v5 : Value} {P2 : List RT} {B : List Nat} {r2 : RT} {o : Obj} (hw : w.heap.size ≤ wr.heap.size) (h : GivenI t w wr out P2 B) (hb : Below wr.heap.size wr w1)
    (hr2 : r2.inw w1) (ha : ∀ ad, r2.a = some ad → wr.heap.size ≤ ad.block ∧ ad.block < w1.heap.size)
    (hr5 : Row w5 t 1 v5 (P2.length + 1) (P2.map RT.v ++ [r2.v]) (fun k => (w.heap.size ≤ k ∧ k < wr.heap.size ∧ k ∉ B) ∨ (w1.alloc o).heap.size ≤ k)) (hc : Chg (fun k => w.heap.size ≤ k ∧ k < wr.heap.size ∧ k ∉ B) (w1.alloc o) w5) :
    ∃ B', GivenI t w w5 v5 (P2 ++ [r2]) B' := by
  have hs1 := hb.size
  have hs5 := hc.size
  simp only [World.size_alloc] at hs5
  have keep : ∀ k, k < w1.heap.size → ¬ (w.heap.size ≤ k ∧ k < wr.heap.size ∧ k ∉ B) → w5.heap[k]? = w1.heap[k]? := fun k hk hn => (hc.block k (by simp only [World.size_alloc]; omega) hn).trans (Below.heap_alloc _ _ _ hk)
  refine ⟨B ++ (r2.a.toList.map Addr.block), ?_, fun r hr => ?_, fun b hb' => ?_⟩
  · have e : (P2 ++ [r2]).map RT.v = P2.map RT.v ++ [r2.v] := by simp
    rw [e, List.length_append, List.length_singleton]
    refine (hr5.inside).mono (fun k hk => ?_)
    obtain ⟨hk1, hk2⟩ := hk
    simp only [World.size_alloc] at hk1
    refine ⟨by omega, hk2, fun hm => ?_⟩
    rcases List.mem_append.1 hm with h1 | h1
    · rcases hk1 with h2 | h2
      · exact h2.2.2 h1
      · have := h.blk k h1; omega
    · obtain ⟨ad, had, rfl⟩ := List.mem_map.1 h1
      have := ha ad (by simpa using had)
      rcases hk1 with h2 | h2 <;> omega
  · rcases List.mem_append.1 hr with h1 | h1
    · obtain ⟨g1, g2⟩ := h.each r h1
      refine ⟨g1.keepB (fun ad had => ?_), fun ad had => List.mem_append_left _ (g2 ad had)⟩
      have hlt := h.blk _ (g2 ad had)
      exact (keep _ (by omega) (fun hn => hn.2.2 (g2 ad had))).trans (hb.block _ hlt)
    · rw [List.mem_singleton.1 h1]
      refine ⟨hr2.keepB (fun ad had => ?_), fun ad had => List.mem_append_right _ (List.mem_map.2 ⟨ad, by simpa using had, rfl⟩)⟩
      have := ha ad had
      exact keep _ this.2 (fun hn => by omega)
  · rcases List.mem_append.1 hb' with h1 | h1
    · have := h.blk b h1; omega
    · obtain ⟨ad, had, rfl⟩ := List.mem_map.1 h1
      have := ha ad (by simpa using had)
      omega
set_option maxRecDepth 100000 in
set_option maxHeartbeats 2000000 in
theorem given_any (a : Option Addr) (c : Nat) (P : List RT) (w : World) (h : PrgU w (.slice a P.length c) P) :
    Calls Tryz.prog 28 #[.slice a P.length c] w (GPost w P) := by
  have HP := Lib.hid h
  have hll := h.lb
  clear h
  have HC1 : Hid (∀ (P2 : List RT) (a2 : Option Addr) (c2 : Nat) w', PrgU w' (.slice a2 P2.length c2) P2 → P2.map RT.l = P.map RT.l → Below w.heap.size w w' → GPost w P (.returned (.slice a2 P2.length c2)) w') := fun P2 a2 c2 w' h1 h2 h3 => ⟨P2, a2, c2, rfl, h1, h2, h3⟩
  obtain ⟨Q, hQ⟩ : ∃ Q, Q = GPost w P := ⟨_, rfl⟩
  rw [← hQ] at HC1 ⊢
  clear hQ
  go_enter Tryz.func28, Tryz.ntmps28
  go_wp2_with fail
  go_loopw [3, 11] (fun out i w' => ∃ (m : Nat) (P2 : List RT) (B : List Nat), m ≤ P.length ∧ P2.length = m ∧ i = .int .i64 m ∧ Hid (GivenI 83 w w' out P2 B) ∧ Hid (P2.map RT.l = (P.take m).map RT.l) ∧ Hid (Below w.heap.size w w')) (fun _ i _ => P.length - (RowKit.intOf i).toNat)
  case atStart => exact ⟨0, [], [], by omega, rfl, rfl, ⟨Row.nil _ _ _ _, by simp, by simp⟩, by simp [Hid], Below.refl _ _⟩
  case round =>
    obtain ⟨m, P2, B, hm, hlm, rfl, HG, HT, HB⟩ := hrel
    by_cases hlt : m < P.length
    · obtain ⟨b, o, rfl, hle, hbl, hc⟩ := (HP.out.later HB.out).head hlt
      have HE := Lib.hid ((HP.out.later HB.out).each P[m] (List.getElem_mem hlt))
      have hl6 := HE.out.lb
      have HT2 : Hid (∀ r : RT, r.l = P[m].l → (P2 ++ [r]).map RT.l = (P.take (m + 1)).map RT.l) := fun r hr => take_l hlt HT.out hr
      have HLM := Lib.hid hlm
      clear HT hlm
      generalize P[m] = r at *
      obtain ⟨rl, ra, rc⟩ := r
      simp only [RT.v] at *
      have hszr := HB.out.size
      obtain ⟨wo, rfl⟩ : ∃ wo : World, wo = wr := ⟨_, rfl⟩
      go_wp2_with fail
      go_loopw [6, 17] (fun out i w' => ∃ q : Nat, q ≤ rl.length ∧ i = .int .i64 q ∧ Hid (Row w' 82 3 out q ((rl.take q).flatMap stcells) (fun k => wo.heap.size ≤ k)) ∧ Hid (Below wo.heap.size wo w')) (fun _ i _ => rl.length - (RowKit.intOf i).toNat)
      case atStart => exact ⟨0, by omega, rfl, Row.nil _ _ _ _, Below.refl _ _⟩
      case round =>
        obtain ⟨q, hq, rfl, HO, HB2⟩ := hrel
        by_cases hlt2 : q < rl.length
        · obtain ⟨b2, o2, rfl, hle2, hb2, d0, d1, d2⟩ := RT.inw.cells (HE.out.later HB2.out) hlt2
          have HTQ : Hid ((rl.take (q + 1)).flatMap stcells = (rl.take q).flatMap stcells ++ stcells rl[q]) := by rw [Hid, List.take_succ_eq_append_getElem hlt2, List.flatMap_append]; simp
          generalize rl[q] = x at *
          obtain ⟨xk, xn, xs⟩ := x
          simp only at *
          have hsz := HB2.out.size
          have HXA : Hid ((wr.alloc (.cells #[.int .i64 xk, .int .i64 xn, .string xs] 81)).heap[wr.heap.size]? = some (.cells #[.int .i64 xk, .int .i64 xn, .string xs] 81 (0, 0))) := heap_alloc_new _ _
          have HBA : Hid (Below wo.heap.size wo (wr.alloc (.cells #[.int .i64 xk, .int .i64 xn, .string xs] 81))) := HB2.out.alloc hsz _
          have HOA : Hid (Row (wr.alloc (.cells #[.int .i64 xk, .int .i64 xn, .string xs] 81)) 82 3 u6 q ((rl.take q).flatMap stcells) (fun k => wo.heap.size ≤ k)) := HO.out.frame (fun k _ hk => Below.heap_alloc _ _ _ hk)
          go_upto_region 9 with fail
          generalize wr.alloc (.cells #[.int .i64 xk, .int .i64 xn, .string xs] 81) = wa at *
          clear d0 d1 d2 hc
          have y0 := cellAt HXA.out 0 rfl
          have y1 := cellAt HXA.out 1 rfl
          have y2 := cellAt HXA.out 2 rfl
          have hsa := HBA.out.size
          go_wp2_with (
            refine wpList_row elemStep rfl rfl (S := fun k => wo.heap.size ≤ k) (n := q) (xs := (rl.take q).flatMap stcells) rfl (HOA.out.frame (fun k _ hk => Below.heap_alloc _ _ _ hk)) (y := .slice (some ⟨wa.heap.size, 0, none⟩) 1 1) (m := 1) (news := [.int .i64 xk, .int .i64 xn, .string xs]) rfl (Reads.single (heap_alloc_new wa _)) (by intro u hu; simp only [List.mem_cons, List.not_mem_nil, or_false] at hu; rcases hu with rfl | rfl | rfl <;> rfl) (by unfold maxLen; omega) (by omega) ?_
            intro v5 w5 hr5 hch5)
          go_roundw
          case rel =>
            refine ⟨q + 1, by omega, by go_num, ?_, (HBA.out.alloc hsa _).trans (hch5.toBelow (by simp <;> omega) (fun n hn h => by omega))⟩
            rw [Hid, HTQ.out]
            exact hr5.mono (fun k hk => by rcases hk with hk | hk; exact hk; simp only [World.size_alloc] at hk; omega)
          case measure => simp [RowKit.intOf]; omega
        · obtain rfl : q = rl.length := by omega
          rw [List.take_length] at HO
          have HO2 : Hid (∃ r2 : RT, r2.l = rl ∧ u6 = r2.v ∧ (∀ ad, r2.a = some ad → wo.heap.size ≤ ad.block ∧ ad.block < wr.heap.size) ∧ Reads wr r2.v r2.l.length 3 (r2.l.flatMap stcells)) := HO.out.rt
          obtain ⟨⟨l2, a2, c2⟩, hr2l, hu6, HA2, HRD⟩ := HO2.out
          obtain rfl : rl = l2 := hr2l.symm
          obtain rfl : u6 = .slice a2 rl.length c2 := hu6
          have HIN : Hid (RT.inw ⟨rl, a2, c2⟩ wr) := ⟨HRD, HE.out.ll, HE.out.ok, HE.out.lb⟩
          have HTN := Lib.hid (HT2.out ⟨rl, a2, c2⟩ rfl)
          have HA := Lib.hid HA2
          clear HO HO2 HRD HA2 hr2l HT2
          have hbs2 := HB2.out.size
          have hml : m < 9223372036854775807 := by omega
          obtain ⟨mm, hmm⟩ : ∃ mm, mm = P2.length := ⟨_, rfl⟩
          have HM : Hid (mm = P2.length) := hmm
          have hmm2 : mm = m := by rw [hmm]; exact HLM.out
          clear hmm
          subst hmm2
          have HGR : Hid (Row wr 83 1 u3 mm (P2.map RT.v) (fun k => w.heap.size ≤ k ∧ k < wo.heap.size ∧ k ∉ B)) := by
            rw [HM.out]; exact HG.out.row.frame (fun k hk hk2 => HB2.out.block k hk.2.1)
          go_wp2_with (
            refine wpList_row elemRow rfl rfl (S := fun k => w.heap.size ≤ k ∧ k < wo.heap.size ∧ k ∉ B) (n := mm) (xs := P2.map RT.v) rfl (HGR.out.frame (fun k _ hk => Below.heap_alloc _ _ _ hk)) (y := .slice (some ⟨wr.heap.size, 0, none⟩) 1 1) (m := 1) (news := [.slice a2 rl.length c2]) rfl (reads_one wr _ _) (one_of rfl) (by unfold maxLen; omega) (by omega) ?_
            intro v5 w5 hr5 hch5)
          have HS5 : Hid (∃ B', GivenI 83 w w5 v5 (P2 ++ [⟨rl, a2, c2⟩]) B') := by
            refine given_step hszr HG.out HB2.out HIN.out (fun ad had => HA.out ad had) ?_ hch5
            rw [← HM.out]
            exact hr5
          obtain ⟨B', HG5⟩ := HS5.out
          have HB5 : Hid (Below w.heap.size w w5) := ((HB.out.trans (HB2.out.mono hszr)).alloc (by omega) _).trans (hch5.toBelow (by simp; omega) (fun n hn h => by have := h.1; omega))
          clear hr5 hch5 HS5 HGR HG HB2 HE HIN
          go_roundw
          case rel => exact ⟨mm + 1, P2 ++ [⟨rl, a2, c2⟩], B', by omega, by simp [HM.out], by go_num, Lib.hid HG5, HTN, HB5⟩
          case measure => simp [RowKit.intOf]; omega
    · obtain rfl : m = P.length := by omega
      rw [List.take_length] at HT
      have HV : Hid (∃ a2 c2, u3 = .slice a2 P2.length c2 ∧ Q (.returned (.slice a2 P2.length c2)) wr) := by
        have hr := HG.out.row.reads
        have hl := map_l_len HT.out
        obtain ⟨_, ao, c2, hv, _⟩ := id hr
        refine ⟨ao, c2, hv, HC1.out P2 ao c2 wr ⟨hv ▸ hr, fun r hr => (HG.out.each r hr).1, ?_, ?_⟩ HT.out HB.out⟩
        · rw [hl]; exact HP.out.ll
        · rw [hl]; exact HP.out.lb
      obtain ⟨a2, c2, rfl, hq⟩ := HV.out
      have HQ := Lib.hid hq
      clear hq HV
      go_wp2
      exact HQ.out
theorem join_cons2 (x y : List UInt8) (r : List (List UInt8)) (s : List UInt8) : Lib.join (x :: y :: r) s = x ++ (s ++ Lib.join (y :: r) s) := by
  simp [Lib.join, List.intercalate, List.intersperse]
theorem join_one (x : List UInt8) (s : List UInt8) : Lib.join [x] s = x := by simp [Lib.join, List.intercalate]
def dval : List UInt8 → Nat → Nat
  | [], a => a
  | c :: l, a => dval l (10 * a + (c.toNat - 48))
theorem dval_append (a b : List UInt8) : ∀ k, dval (a ++ b) k = dval b (dval a k) := by
  induction a with
  | nil => intro k; rfl
  | cons c a ih => intro k; exact ih _
theorem digit_nat (i : Nat) (h : i < 10) : (UInt8.ofNat (48 + i)).toNat = 48 + i := by
  rw [UInt8.toNat_ofNat']; omega
theorem dval_dec (u : Nat) : dval (Lib.decDigits u) 0 = u := by
  induction u using Nat.strongRecOn with
  | ind u ih =>
    rw [Lib.decDigits]
    split
    · rename_i h
      simp only [dval, Nat.mul_zero, Nat.zero_add]
      rw [digit_nat u h]; omega
    · rename_i h
      rw [dval_append, ih (u / 10) (by omega)]
      simp only [dval]
      rw [digit_nat _ (by omega)]; omega
theorem pdec_digit (u : Nat) : ∀ c ∈ Lib.decDigits u, 48 ≤ c.toNat ∧ c.toNat ≤ 57 := by
  induction u using Nat.strongRecOn with
  | ind u ih =>
    intro c hc
    rw [Lib.decDigits] at hc
    split at hc
    · rename_i h
      rw [List.mem_singleton.1 hc, digit_nat u h]; omega
    · rename_i h
      rcases List.mem_append.1 hc with h1 | h1
      · exact ih _ (by omega) c h1
      · rw [List.mem_singleton.1 h1, digit_nat _ (by omega)]; omega
theorem itoa_char (n : Int) : ∀ c ∈ Lib.itoa n, c.toNat = 45 ∨ (48 ≤ c.toNat ∧ c.toNat ≤ 57) := by
  intro c hc
  unfold Lib.itoa at hc
  split at hc
  · rcases List.mem_cons.1 hc with rfl | h
    · exact .inl rfl
    · exact .inr (pdec_digit _ c h)
  · exact .inr (pdec_digit _ c hc)
theorem dig_char16 : ∀ a : Fin 16, (dig a.val).toNat ≠ 59 ∧ (dig a.val).toNat ≠ 124 := by decide +kernel
theorem phexL_char : ∀ (a : List UInt8), ∀ c ∈ hexL a, c.toNat ≠ 59 ∧ c.toNat ≠ 124
  | [], c, h => by simp [hexL] at h
  | d :: a, c, h => by
    simp only [hexL, List.cons_append, List.nil_append, List.mem_cons] at h
    have hd := d.toNat_lt
    rcases h with rfl | rfl | h
    · exact dig_char16 ⟨d.toNat / 16, by omega⟩
    · exact dig_char16 ⟨d.toNat % 16, by omega⟩
    · exact phexL_char a c h
def wordB (k : Int) : List UInt8 := (wordsL.getD k.toNat ⟨#[]⟩).data.toList
def sufB (x : ST) : List UInt8 := if x.k ∈ numL then 32 :: Lib.itoa x.n else if x.k ∈ namL then 32 :: (34 :: hexL x.s.data.toList ++ [34]) else []
theorem ba_list (a b : ByteArray) : (a ++ b).data.toList = a.data.toList ++ b.data.toList := by simp
theorem stext_list (x : ST) : (stextB x).data.toList = wordB x.k ++ sufB x := by
  unfold stextB sufB wordB
  split
  · rw [ba_list, ba_list]; rfl
  · split
    · rw [ba_list, ba_list]; rfl
    · simp
def NormS (x : ST) : Prop := 1 ≤ x.k ∧ x.k ≤ 12 ∧ (x.k ∉ numL → x.n = 0) ∧ (x.k ∉ namL → x.s = ⟨#[]⟩)
theorem word_all : ∀ i : Fin 13, ∀ c ∈ (wordsL.getD i.val ⟨#[]⟩).data.toList, c ≠ 32 ∧ c ≠ 59 ∧ c ≠ 124 := by decide +kernel
theorem wordB_char {x : ST} (h : NormS x) : ∀ c ∈ wordB x.k, c ≠ 32 ∧ c ≠ 59 ∧ c ≠ 124 := word_all ⟨x.k.toNat, by have := h.1; have := h.2.1; omega⟩
theorem sufB_char (x : ST) : ∀ c ∈ sufB x, c ≠ 59 ∧ c ≠ 124 := by
  intro c hc
  have key : c.toNat ≠ 59 ∧ c.toNat ≠ 124 → c ≠ 59 ∧ c ≠ 124 := fun h => ⟨fun e => h.1 (by rw [e]; rfl), fun e => h.2 (by rw [e]; rfl)⟩
  apply key
  unfold sufB at hc
  split at hc
  · rcases List.mem_cons.1 hc with rfl | h
    · decide
    · rcases itoa_char _ c h with h1 | h1 <;> omega
  · split at hc
    · simp only [List.mem_cons, List.cons_append, List.mem_append, List.not_mem_nil, or_false] at hc
      rcases hc with rfl | rfl | h | rfl
      · decide
      · decide
      · exact phexL_char _ c h
      · decide
    · cases hc
theorem stext_char {x : ST} (h : NormS x) : ∀ c ∈ (stextB x).data.toList, c ≠ 59 ∧ c ≠ 124 := by
  intro c hc
  rw [stext_list] at hc
  rcases List.mem_append.1 hc with h1 | h1
  · exact (wordB_char h c h1).2
  · exact sufB_char x c h1
theorem ST.ext' {x y : ST} (h1 : x.k = y.k) (h2 : x.n = y.n) (h3 : x.s = y.s) : x = y := by cases x; cases y; simp_all
def lrT (l : List ST) : List UInt8 := Lib.join (l.map fun x => (stextB x).data.toList) [59, 32]
def lpT (P : List (List ST)) : List UInt8 := Lib.join (P.map lrT) [32, 124, 32]
theorem stext_ne {x : ST} (h : NormS x) : (stextB x).data.toList ≠ [] := by
  rw [stext_list]
  intro e
  have e2 := (List.append_eq_nil_iff.1 e).1
  have := h.1; have := h.2.1
  have h0 : ∀ i : Fin 13, (wordsL.getD i.val ⟨#[]⟩).data.toList = [] → i.val = 0 := by decide +kernel
  have := h0 ⟨x.k.toNat, by omega⟩ e2
  simp only at this
  omega
theorem join_ne {a : List UInt8} {r : List (List UInt8)} {s : List UInt8} (h : a ≠ []) : Lib.join (a :: r) s ≠ [] := by
  cases r with
  | nil => rw [join_one]; exact h
  | cons b r => rw [join_cons2]; exact fun e => h (List.append_eq_nil_iff.1 e).1
theorem join_char {c : UInt8} {s : List UInt8} (hs : c ∉ s) : ∀ {a : List (List UInt8)}, (∀ x ∈ a, c ∉ x) → c ∉ Lib.join a s
  | [], _ => by simp [Lib.join]
  | [x], h => by rw [join_one]; exact h x (by simp)
  | x :: y :: r, h => by
    rw [join_cons2]
    simp only [List.mem_append, not_or]
    exact ⟨h x (by simp), hs, join_char hs (fun u hu => h u (List.mem_cons_of_mem _ hu))⟩
end Go.Proofs.YtpijpeocdlnhiaaGreatDoor
