/- slices.Concat of steps. -/
import Derived.Test.YtccnmoicckjfbaaGreatDoorPGiven
import Derived.Lib.AppendZerosOnto
import Derived.Deep.DeepAppendWide
namespace Go.Proofs.YtccnmoicckjfbaaGreatDoor
set_option linter.unusedVariables false
set_option linter.unusedSimpArgs false
open Go.RowKit

/-- append onto a row of the call's own, under growslice's own bound. -/
theorem run_append_wide {P : Program} {t e : TypeId} {z : Value} {size bytes : Nat} (hE : ElemOf P t e z size bytes) (ty : TypeId) (w : World) (base : Nat) (hbase : base ≤ w.heap.size)
    (v : Value) (n : Nat) (xs : List Value) (hown : w.ownsRow base e size v n xs) (x : Value) (m : Nat) (news : List Value) (hx : Reads w x m size news) (h1 : ∀ u ∈ news, u.oneCell' = true)
    (h63 : n + m ≤ maxLen) (hbytes : ((n + m) + (n + m) / 4 + 192) * bytes ≤ 281474976710656) :
    ∃ v' w', (Builtin.append_ #[t, t] ty #[v, x]).run P w = .ok v' w' ∧ w'.ownsRow base e size v' (n + m) (xs ++ news) ∧ w.grownBy w' v.ownBlock := by
  obtain ⟨i, hi, hz, hs, hb⟩ := info_parts hE.info
  obtain ⟨hl, ao, c, rfl, hmc, hnone, hcells⟩ := hx
  cases ao with
  | some ad =>
    obtain ⟨v', w', h1, h2, h3, -⟩ := run_append_own_wide (P := P) w base t ty e i z size bytes hE.und hi hz hs hb hE.zsize hE.pos v n xs hown ad m c news hl (hcells ad rfl) h1 h63 hbytes hbase
    exact ⟨v', w', h1, h2, h3⟩
  | none =>
    obtain ⟨rfl, rfl⟩ := hnone rfl
    obtain rfl : news = [] := List.eq_nil_of_length_eq_zero (by simpa using hl)
    rw [List.append_nil, Nat.add_zero]
    refine ⟨v, w, ?_, hown, ⟨rfl, rfl, rfl, Nat.le_refl _, fun _ _ _ => rfl⟩⟩
    rcases hown.2 with ⟨rfl, rfl⟩ | ⟨g, cap, cur, rfl, _, _, hn, _⟩
    · simp [Builtin.append_, run_underlying hE.und, sizeOf, typeInfo, hi, Builtin.lenOf, Builtin.firstCells, storeCells]
    · simp [Builtin.append_, run_underlying hE.und, sizeOf, typeInfo, hi, Builtin.lenOf, Builtin.firstCells, hn, storeCells]

theorem wpList_wide {P : Program} {t e : TypeId} {z : Value} {size bytes : Nat} (hE : ElemOf P t e z size bytes) {w : World} {ops : Array Oper} {rest : List Oper} {o : Oper} {a : Act} {Q : Exit → Act → World → Prop} (hgd : o.guard = none) {s x : Operand}
    (ho : o.op = .call { callee := .builtin .append, args := #[s, x], argTypes := #[t, t] })
    {base : Nat} (hbase : base ≤ w.heap.size) {v : Value} {n : Nat} {xs : List Value} (hs : a.eval s = v) (hown : w.ownsRow base e size v n xs)
    {y : Value} {m : Nat} {news : List Value} (hx : a.eval x = y) (hy : Reads w y m size news) (h1 : ∀ u ∈ news, u.oneCell' = true)
    (h63 : n + m ≤ maxLen) (hbytes : ((n + m) + (n + m) / 4 + 192) * bytes ≤ 281474976710656)
    (h : ∀ v' w', w'.ownsRow base e size v' (n + m) (xs ++ news) → w.grownBy w' v.ownBlock → wpList P ops Q rest (a.put o.dst v') w') : wpList P ops Q (o :: rest) a w := by
  refine wpList_plain hgd fun K hK => ?_
  subst hs; subst hx
  obtain ⟨v', w', hrun, r1, r2⟩ := run_append_wide hE o.type w base hbase _ n xs hown _ m news hy h1 h63 hbytes
  unfold Oper.wp
  simp [execOp, ho, resolve, invoke, builtin, hrun, Result.andThen]
  exact hK _ _ (h v' w' r1 r2)

def allS (P : List RT) : List ST := P.flatMap RT.l
theorem allS_succ {P : List RT} {m : Nat} (h : m < P.length) : allS (P.take (m + 1)) = allS (P.take m) ++ P[m].l := by
  unfold allS
  rw [List.take_succ_eq_append_getElem h, List.flatMap_append]; simp
theorem allS_take (P : List RT) (m : Nat) : (allS (P.take m)).length ≤ (allS P).length := by
  conv => rhs; rw [← List.take_append_drop m P]
  unfold allS
  rw [List.flatMap_append, List.length_append]; omega
theorem allS_len {P : List RT} {m : Nat} (h : m < P.length) : (allS (P.take (m + 1))).length = (allS (P.take m)).length + P[m].l.length := by rw [allS_succ h, List.length_append]
theorem allS_cells {P : List RT} {m : Nat} (h : m < P.length) : (allS (P.take (m + 1))).flatMap stcells = (allS (P.take m)).flatMap stcells ++ P[m].l.flatMap stcells := by rw [allS_succ h, List.flatMap_append]

set_option maxRecDepth 100000 in
set_option maxHeartbeats 1000000 in
theorem growS_any (n : Nat) (hn : n ≤ 4398046600000) (w : World) : Calls Tryz.prog 27 #[.slice none 0 0, .int .i64 n] w fun e w' =>
    ∃ v, e = .returned v ∧ w'.ownsRow w.heap.size 37 3 v 0 [] ∧ Below w.heap.size w w' := by
  obtain ⟨i0, hi0, hz0, hs0, hb0⟩ : ∃ i0, Tryz.prog.info? 37 = some i0 ∧ i0.zero = some (.agg #[.int .i64 0, .int .i64 0, .string ⟨#[]⟩]) ∧ i0.size = 3 ∧ i0.bytes = 32 := info_parts elemStep.info
  by_cases h0 : n = 0
  · subst h0
    go_enter Tryz.func27, Tryz.ntmps27
    go_wp2
    go_ret
    exact ⟨_, rfl, World.ownsRow_nil _ _ _ _, Below.refl _ _⟩
  · obtain ⟨z, hz⟩ : ∃ z : Value, z = .agg #[.int .i64 0, .int .i64 0, .string ⟨#[]⟩] := ⟨_, rfl⟩
    have hzc : z.cells.size = 3 := by rw [hz]; rfl
    rw [← hz] at hz0
    clear hz
    have hrz : ∀ ty, (Builtin.append_ #[38, 3] ty #[.slice none 0 0, .int .i64 (n : Int)]).run Tryz.prog w =
      .ok (.slice (some ⟨w.heap.size, 0, none⟩) n (grownCap w n 0 37)) (w.drew.alloc (.cells (#[] ++ Builtin.zeroCells z.cells n ++ Builtin.zeroCells z.cells (grownCap w n 0 37 - n)) 37)) := fun ty => by
      have h := Lib.run_append_grow_zeros w 38 3 ty 37 i0 z .i64 .i64 Tryz.underlying38 Tryz.underlying3 hi0 hz0 none 0 0 [] (run_firstCells_none w.drew i0.size 0 0 0) n (by omega) (by omega) (by omega) (by omega)
        (by rw [hb0]; omega) (growslice_fits_wide (by omega) (by rw [hb0]; omega))
      simpa using h
    have hGn : n ≤ grownCap w n 0 37 := grownCap_ge w _ _ _
    have hGm : grownCap w n 0 37 ≤ maxLen := grownCap_le_maxLen w n 0 37 (by unfold maxLen; omega)
    obtain ⟨G, hG⟩ : ∃ G, G = grownCap w n 0 37 := ⟨_, rfl⟩
    rw [← hG] at hrz hGn hGm
    have hG63 : G ≤ 9223372036854775807 := by unfold maxLen at hGm; omega
    have hHM := Lib.hid hGm
    clear hG hGm
    have HSZ : Hid ((#[] ++ Builtin.zeroCells z.cells n ++ Builtin.zeroCells z.cells (G - n)).size = G * 3) := by
      have hz : ∀ k, (Builtin.zeroCells z.cells k).size = k * 3 := fun k => by rw [size_zeroCells, hzc]
      simp only [Array.size_append, hz, Hid]
      show 0 + n * 3 + (G - n) * 3 = G * 3
      omega
    generalize (#[] ++ Builtin.zeroCells z.cells n ++ Builtin.zeroCells z.cells (G - n)) = cs at *
    go_enter Tryz.func27, Tryz.ntmps27
    go_wp2_with (at_builtin; refine Lib.wpList_append_run _ rfl _ _ _ _ rfl _ _ rfl rfl _ _ (hrz _) ?_)
    all_goals (go_ret; refine ⟨_, rfl, ⟨rfl, .inr ⟨w.heap.size, G, cs, rfl, Nat.le_refl _, heap_alloc_new w.drew _, by omega, hHM.out, HSZ.out, by simp⟩⟩, ((Below.refl _ _).drew).alloc (Nat.le_refl _) _⟩)

theorem steps_one (L : List ST) : ∀ u ∈ L.flatMap stcells, u.oneCell' = true := by
  intro u hu
  obtain ⟨s, -, hs⟩ := List.mem_flatMap.1 hu
  simp only [stcells, List.mem_cons, List.not_mem_nil, or_false] at hs
  rcases hs with rfl | rfl | rfl <;> rfl

set_option maxRecDepth 100000 in
set_option maxHeartbeats 2000000 in
theorem concat_any (pa : Option Addr) (pc : Nat) (P : List RT) (w : World) (h : PrgU w (.slice pa P.length pc) P) (hs : (allS P).length ≤ 4398046600000) :
    Calls Tryz.prog 18 #[.slice pa P.length pc] w fun e w' => ∃ a c, e = .returned (.slice a (allS P).length c) ∧ Reads w' (.slice a (allS P).length c) (allS P).length 3 ((allS P).flatMap stcells) ∧ Below w.heap.size w w' := by
  have HP := Lib.hid h
  have hlb := h.lb
  clear h
  go_enter Tryz.func18, Tryz.ntmps18
  go_wp2_with fail
  go_loopw [3, 11] (fun s i w' => ∃ m : Nat, m ≤ P.length ∧ i = .int .i64 m ∧ s = .int .i64 ((allS (P.take m)).length : Nat) ∧ w' = w) (fun _ i _ => P.length - (RowKit.intOf i).toNat)
  case atStart => exact ⟨0, by omega, by first | rfl | trivial, by first | rfl | trivial, by first | rfl | trivial⟩
  case round =>
    obtain ⟨m, hm, rfl, rfl, rfl⟩ := hrel
    have hlt2 := allS_take P m
    by_cases hlt : m < P.length
    · obtain ⟨b, o, rfl, hle, hb, hc⟩ := HP.out.head hlt
      have hsu := allS_len hlt
      have hls := allS_take P (m + 1)
      unfold RT.v at hc
      go_wp2_with fail
      go_roundw
      case rel => exact ⟨m + 1, by omega, by go_num, by rw [hsu]; go_num, by first | rfl | trivial⟩
      case measure => simp [RowKit.intOf]; omega
    · obtain rfl : m = P.length := by omega
      rw [List.take_length]
      clear hlt2
      go_wp2_with fail
      refine (growS_any (allS P).length hs _).mono ?_
      rintro e w1 ⟨v, rfl, hrow, hb⟩
      have HROW := Lib.hid hrow
      have HB := Lib.hid hb
      clear hrow hb
      go_wp2_with fail
      go_loopw [6, 27] (fun v i w' => ∃ m : Nat, m ≤ P.length ∧ i = .int .i64 m ∧ Hid (w'.ownsRow wr.heap.size 37 3 v (allS (P.take m)).length ((allS (P.take m)).flatMap stcells)) ∧ Hid (Below wr.heap.size wr w')) (fun _ i _ => P.length - (RowKit.intOf i).toNat)
      case atStart => exact ⟨0, by omega, rfl, HROW, HB⟩
      case round =>
        obtain ⟨m, hm, rfl, HRW, HBW⟩ := hrel
        have hlt2 := allS_take P m
        by_cases hlt : m < P.length
        · obtain ⟨b, o, rfl, hle, hb, hc⟩ := HP.out.head hlt
          have HRP := Lib.hid ((HP.out.later HBW.out).each P[m] (List.getElem_mem hlt)).rd
          have hsu := allS_len hlt
          have hjs := allS_cells hlt
          have hls := allS_take P (m + 1)
          have hc2 := (HBW.out.cell (p := ⟨b, o + m, none⟩) hb).trans hc
          have hsz := HBW.out.size
          unfold RT.v at hc2
          unfold RT.v at HRP
          clear hc
          go_wp2_with (refine wpList_wide elemStep rfl rfl hsz (n := (allS (P.take m)).length) (xs := (allS (P.take m)).flatMap stcells) rfl HRW.out (m := P[m].l.length) (news := P[m].l.flatMap stcells) rfl HRP.out (steps_one _) (by unfold maxLen; omega) (by omega) ?_; intro v5 w5 hr5 hch5)
          go_roundw
          case rel =>
            refine ⟨m + 1, by omega, by go_num, ?_, HBW.out.grown hch5 hsz (fun k hk => (HRW.out.lt k hk).1)⟩
            rw [Hid, hsu, hjs]
            exact hr5
          case measure => simp [RowKit.intOf]; omega
        · obtain rfl : m = P.length := by omega
          rw [List.take_length] at HRW
          have hrd := reads_of_owns HRW.out
          obtain ⟨-, a, c, hv, -⟩ := id hrd
          subst hv
          have HRD := Lib.hid hrd
          clear hrd
          go_wp2
          go_ret
          exact ⟨a, c, rfl, HRD.out, HBW.out⟩
end Go.Proofs.YtccnmoicckjfbaaGreatDoor
