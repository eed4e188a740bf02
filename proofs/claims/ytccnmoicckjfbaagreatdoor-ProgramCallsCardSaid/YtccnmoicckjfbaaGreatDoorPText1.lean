/- program.Text. -/
import Derived.Test.YtccnmoicckjfbaaGreatDoorPJoin
namespace Go.Proofs.YtccnmoicckjfbaaGreatDoor
set_option linter.unusedVariables false
set_option linter.unusedSimpArgs false
open Go.RowKit

set_option maxRecDepth 100000 in
set_option maxHeartbeats 2000000 in
theorem join_none (sep : ByteArray) (w : World) : Calls Tryz.prog 22 #[.slice none 0 0, .string sep] w fun e w' => e = .returned (.string ⟨#[]⟩) ∧ Below w.heap.size w w' := by
  go_enter Tryz.func22, Tryz.ntmps22
  go_wp2
  go_ret
  exact ⟨rfl, Below.refl _ _⟩

theorem joinB_nil (sep : ByteArray) : joinB [] sep = ⟨#[]⟩ := by unfold joinB; rw [List.map_nil]; simp [Lib.join]

set_option maxRecDepth 100000 in
set_option maxHeartbeats 2000000 in
theorem joinS_none (r : RT) (sep : ByteArray) (w : World) (h : Reads w r.v r.l.length 3 (r.l.flatMap stcells)) (hl : r.l.length = 0) :
    Calls Tryz.prog 16 #[r.v, .string sep, .func (.func 17) #[] #[]] w fun e w' => e = .returned (.string (joinB [] sep)) ∧ Below w.heap.size w w' := by
  obtain ⟨rl, ra, rc⟩ := r
  simp only [RT.v] at *
  obtain rfl : rl = [] := List.eq_nil_of_length_eq_zero hl
  clear h hl
  simp only [List.length_nil]
  go_enter Tryz.func16, Tryz.ntmps16
  go_wp2_with fail
  go_loopw [7, 12] (fun out i w' => out = .slice none 0 0 ∧ i = .int .i64 0 ∧ w' = w) (fun _ _ _ => 0)
  case atStart => exact ⟨rfl, rfl, rfl⟩
  case round =>
    obtain ⟨rfl, rfl, rfl⟩ := hrel
    go_wp2_with fail
    refine (join_none sep _).mono ?_
    rintro e w5 ⟨rfl, hb5⟩
    have HB5 := Lib.hid hb5
    clear hb5
    go_wp2
    go_ret
    refine ⟨?_, HB5.out⟩
    rw [joinB_nil]; rfl

def semi : ByteArray := ⟨#[59, 32]⟩
def bar : ByteArray := ⟨#[32, 124, 32]⟩
def textR (tx : ST → ByteArray) (r : RT) : ByteArray := joinB (r.l.map tx) semi
/-- What Step.text must do in a routine. -/
def Says (tx : ST → ByteArray) (w : World) (r : RT) : Prop := ∀ x ∈ r.l, ∀ W, Below w.heap.size w W → Calls Tryz.prog 17 #[x.val] W fun e w' => e = .returned (.string (tx x)) ∧ Below W.heap.size W w'
def Short (l : List ByteArray) (sep : ByteArray) : Prop := (Lib.join (l.map (·.data.toList)) sep.data.toList).length ≤ 140737488355328

set_option maxRecDepth 100000 in
set_option maxHeartbeats 2000000 in
theorem text1_any (tx : ST → ByteArray) (r : RT) (w : World) (h : Reads w r.v r.l.length 3 (r.l.flatMap stcells)) (hl : r.l.length ≤ 100000) (hlen : Short (r.l.map tx) semi) (hg : Says tx w r) :
    Calls Tryz.prog 15 #[r.v] w fun e w' => e = .returned (.string (textR tx r)) ∧ Below w.heap.size w w' := by
  have HJ : Hid (Calls Tryz.prog 16 #[r.v, .string semi, .func (.func 17) #[] #[]] w fun e w' => e = .returned (.string (textR tx r)) ∧ Below w.heap.size w w') := by
    rw [Hid]
    by_cases h0 : r.l.length = 0
    · have := joinS_none r semi w h h0
      have h1 : textR tx r = joinB [] semi := by rw [textR, List.eq_nil_of_length_eq_zero h0]; rfl
      rw [h1]; exact this
    · exact joinS_any tx r semi w h ⟨by omega, hl⟩ hlen hg
  clear h hlen hg
  generalize r.v = v at *
  go_enter Tryz.func15, Tryz.ntmps15
  go_wp2_with fail
  refine HJ.out.mono ?_
  rintro e w5 ⟨rfl, hb5⟩
  have HB5 := Lib.hid hb5
  clear hb5 HJ
  go_wp2
  go_ret
  exact ⟨rfl, HB5.out⟩

set_option maxRecDepth 100000 in
set_option maxHeartbeats 2000000 in
theorem joinR_any (tx : ST → ByteArray) (a : Option Addr) (c : Nat) (P : List RT) (sep : ByteArray) (w : World) (h : Prg w (.slice a P.length c) P) (hl : 0 < P.length ∧ P.length ≤ 100000) (hll : ∀ r ∈ P, r.l.length ≤ 100000) (hlen : Short (P.map (textR tx)) sep) (hls : ∀ r ∈ P, Short (r.l.map tx) semi)
    (hg : ∀ r ∈ P, Says tx w r) :
    Calls Tryz.prog 14 #[.slice a P.length c, .string sep, .func (.func 15) #[] #[]] w fun e w' => e = .returned (.string (joinB (P.map (textR tx)) sep)) ∧ Below w.heap.size w w' := by
  have HP := Lib.hid h
  have HG : Hid (∀ r ∈ P, ∀ W, Below w.heap.size w W → Calls Tryz.prog 15 #[r.v] W fun e w' => e = .returned (.string (textR tx r)) ∧ Below W.heap.size W w') :=
    fun r hr W hW => text1_any tx r W ((h.each r hr).later hW) (hll r hr) (hls r hr) (fun x hx W2 h2 => hg r hr x hx W2 (hW.trans (h2.mono hW.size)))
  have HLEN := Lib.hid hlen
  have HTK : Hid (∀ m (hm : m < P.length), (P.take (m + 1)).map (textR tx) = (P.take m).map (textR tx) ++ [textR tx P[m]]) := fun m hm => by
    rw [List.take_succ_eq_append_getElem hm, List.map_append]; rfl
  clear h hg hlen hls hll
  generalize textR tx = tr at *
  go_enter Tryz.func14, Tryz.ntmps14
  go_wp2_with fail
  go_loopw [7, 12] (fun out i w' => ∃ m : Nat, m ≤ P.length ∧ i = .int .i64 m ∧ Hid (Row w' 9 1 out m (((P.take m).map tr).map Value.string) (fun k => w.heap.size ≤ k)) ∧ Hid (Below w.heap.size w w')) (fun _ i _ => P.length - (RowKit.intOf i).toNat)
  case atStart => exact ⟨0, by omega, rfl, Row.nil _ _ _ _, Below.refl _ _⟩
  case round =>
    obtain ⟨m, hm, rfl, HO, HB⟩ := hrel
    by_cases hlt : m < P.length
    · obtain ⟨b, o, c', hv, hle, hbl, hcell⟩ := (HP.out.later HB.out).rd.at (by omega)
      cases hv
      have hc := hcell m (RT.v P[m]) (by rw [List.getElem?_map, List.getElem?_eq_getElem hlt]; rfl)
      have HGW := Lib.hid (HG.out P[m] (List.getElem_mem hlt) wr HB.out)
      have HTM := Lib.hid (HTK.out m hlt)
      have hl2 := HP.out.ll P[m] (List.getElem_mem hlt)
      clear hcell
      generalize tr P[m] = key at *
      unfold RT.v at hc HGW
      generalize P[m] = r at *
      obtain ⟨rl, ra, rc⟩ := r
      simp only at *
      go_wp2_with fail
      refine HGW.out.mono ?_
      rintro e w4 ⟨rfl, hb4⟩
      have HB4 := Lib.hid (HB.out.trans (hb4.mono HB.out.size))
      have HO4 : Hid (Row w4 9 1 u7 m (((P.take m).map tr).map Value.string) (fun k => w.heap.size ≤ k)) := HO.out.frame (fun k _ hk => hb4.block k hk)
      clear hb4 hc HGW
      have hbl := HB4.out.size
      go_wp2_with (refine wpList_row elemStr rfl rfl (S := fun k => w.heap.size ≤ k) (n := m) (xs := ((P.take m).map tr).map Value.string) rfl (HO4.out.frame (fun k _ hk => Below.heap_alloc _ _ _ hk)) (y := .slice (some ⟨w4.heap.size, 0, none⟩) 1 1) (m := 1) (news := [.string key]) rfl (reads_one w4 _ _) (one_of rfl) (by unfold maxLen; omega) (by omega) ?_; intro v5 w5 hr5 hch5)
      go_roundw
      case rel =>
        refine ⟨m + 1, by omega, by go_num, ?_, (HB4.out.alloc hbl _).trans (hch5.toBelow (by simp <;> omega) (fun n hn h => by omega))⟩
        rw [Hid, HTM.out, List.map_append]
        exact hr5.mono (fun k hk => by rcases hk with hk | hk; exact hk; simp only [World.size_alloc] at hk; omega)
      case measure => simp [RowKit.intOf]; omega
    · obtain rfl : m = P.length := by omega
      rw [List.take_length] at HO
      obtain ⟨bk, o, c', he, hcap, hbk, hcell⟩ := HO.out.reads.at (by omega)
      subst he
      generalize hxs : P.map tr = xs at *
      have hlx : xs.length = P.length := by rw [← hxs, List.length_map]
      have hj := Lib.hid (Tryz.strings_Join bk o c' xs sep wr (fun j x hx => hcell j (.string x) (by rw [List.getElem?_map, hx]; rfl)) hbk (by omega) (by omega) HLEN.out)
      rw [hlx] at hj
      clear hcell
      go_wp2_with fail
      refine hj.out.mono ?_
      rintro e w5 ⟨rfl, hb5⟩
      have HB5 := Lib.hid (HB.out.trans (hb5.mono HB.out.size))
      clear hb5 hj HLEN
      go_wp2
      go_ret
      refine ⟨?_, HB5.out⟩
      show _ = Ending.returned (.string (joinB (List.map tr P) sep))
      rw [hxs]; rfl
end Go.Proofs.YtccnmoicckjfbaaGreatDoor
