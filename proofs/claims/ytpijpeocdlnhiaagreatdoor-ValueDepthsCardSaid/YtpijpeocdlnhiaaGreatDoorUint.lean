/- A loop over a function that counts in a box of its own and hands over its members; its rounds never leave; no program in sight.
bin.Uint: the bytes of a number, by a loop over the function of its digits. -/
import Derived.RangeFuncNested
import Derived.RangeFuncBound
import Derived.RangeFuncCalls
import Derived.RangeFuncLeaves
import Derived.Shelf.Abstract
import Derived.Shelf.RegionOpen
import Derived.WalkKit
import Derived.OwnWalkIn
import Derived.TacticsInMore
import Derived.LoopNIn
import Derived.LoopIn
import Derived.Test.YtpijpeocdlnhiaaGreatDoorHeap
import Derived.Test.YtpijpeocdlnhiaaGreatDoorArms
import Derived.Test.YtpijpeocdlnhiaaGreatDoorPText
import Derived.Maps.AppendAt
namespace Go.Proofs.YtpijpeocdlnhiaaGreatDoor
set_option linter.unusedVariables false
set_option linter.unusedSimpArgs false
open Go.RowKit Go.Shelf

/-- What an iterator's function does: it hands over the members of a list one after another; between them it may store into its box (St). -/
def SeqBox {α : Type} (F : Fence) (n : Nat) (P : Program) (g : Nat) (lb : Array Value) (encs : α → Array Value) (Rd : List α → α → World → Prop) (Kp : World → World → Prop) (St : World → World → Prop) (S : List α → Prop) (w : World) : Prop :=
  ∀ (l : Nat) (J : List α → World → Prop) (W : World), Below w.heap.size w W → AbidesFrom W.heap.size J → (∀ pre A B, St A B → J pre A → J pre B) →
    (∀ pre x W1, J pre W1 → Rd pre x W1 → YieldAt F (n - 1) P l (encs x) W1 fun e W' => e = .returned (.bool true) ∧ J (pre ++ [x]) W' ∧ Kp W1 W') →
    J [] W → CallsIn F n P g (#[.func (.yield l) #[] #[]] ++ lb) W fun e W' => (∃ v, e = .returned v) ∧ ∃ xs, S xs ∧ J xs W'

/-- A round ends where its body ends. -/
def boxPost {α : Type} (B : Nat) (Kp : World → World → Prop) (I : List α → World → Prop) (xs : List α) (W : World) : Exit → Act → World → Prop
  | .normal, _, W' => KeepsFrom B W W' ∧ Kp W W' ∧ I xs W'
  | _, _, _ => False

theorem wpIn_rangeBox {F : Fence} {n : Nat} {P : Program} {α : Type} {g : Operand} {ps : Array Tmp} {assign body : Code} {Q : Exit → Act → World → Prop} {a : Act} {w : World}
    (hro : F.round = none) (h1 : 1 ≤ n) {gf : Nat} {lb : Array Value} (hg : a.eval g = .func (.func gf) #[] lb) (hFg : F.fn gf) (eg : ∀ args w, (callFunc gf args).run P w = .ok (.enter gf args) w)
    {encs : α → Array Value} {Rd : List α → α → World → Prop} {Kp : World → World → Prop} {S : List α → Prop} {w0 : World} {St : World → World → Prop} (hseq : SeqBox F (n - 1) P gf lb encs Rd Kp St S w0)
    (hRd : ∀ (pre : List α) (x : α) (W : World) (l : Nat) (o o' : Obj), Rd pre x W → W.heap[l]? = some o → o.isCells = false → Rd pre x (W.putObj l o'))
    (hKt : ∀ {A B C : World}, Kp A B → Kp B C → Kp A C) (hKb : ∀ (W : World) (l : Nat) (o o' : Obj), w.heap.size ≤ l → W.heap[l]? = some o → o.isCells = false → o.isWalk = false → Kp W (W.putObj l o')) (hb0 : Below w0.heap.size w0 w) (hps : ∀ x, (encs x).size = ps.size)
    (hSk : ∀ (A B : World) (k : Nat), St A B → w.heap.size ≤ k → B.heap[k]? = A.heap[k]?)
    (I : List α → World → Prop) (hSI : ∀ pre A B, St A B → I pre A → I pre B) (hI : OwnFrom w.heap.size I) (h0 : I [] w) (a₁ : α → Act)
    (hassign : ∀ (l : Nat) (x : α) (W : World) (K : Act → World → Prop), K (a₁ x) W →
      assign.wpIn (F.inRound l) (n - 1 - 1) P (Exit.then K (fun _ _ _ => False)) { tmps := (ps.zip (encs x)).foldl (fun t (p, v) => t.setIfInBounds p v) a.tmps, defers := [] } W)
    (hbody : ∀ (l : Nat) (pre : List α) (x : α) (W : World), I pre W → Rd pre x W → body.wpIn (F.inRound l) (n - 1 - 1) P (boxPost w.heap.size Kp I (pre ++ [x]) W) (a₁ x) W)
    (hdone : ∀ (D : Nat) (xs : List α) (W : World), w.heap.size ≤ D → S xs → I xs W → W.heap[D]? = some (.deferred (some [])) → Q .normal { a with defers := { target := .collected D, args := #[] } :: a.defers } W) :
    (Code.rangeFunc g ps assign body).wpIn F n P Q a w := by
  refine wpIn_rangeFunc ?_
  intro fn hfn
  rw [hro]
  obtain ⟨rec, hrec⟩ : ∃ rec : LoopState → Option Code → Loop, rec = fun st pe => { state := st, pending := pe, fn, tmps := a.tmps, params := ps, assign, body, defers := w.heap.size } := ⟨_, rfl⟩
  obtain ⟨W1, hW1⟩ : ∃ W1, (w.alloc (.deferred (some []))).alloc (.loop (rec .ready none)) = W1 := ⟨_, rfl⟩
  have hL : W1.heap[w.heap.size + 1]? = some (.loop (rec .ready none)) := by
    have h := World.alloc_heap_new (w.alloc (.deferred (some []))) (.loop (rec .ready none))
    rw [World.size_alloc] at h
    rw [← hW1]; exact h
  have hD : W1.heap[w.heap.size]? = some (.deferred (some [])) := by
    rw [← hW1]; exact (Below.heap_alloc _ _ _ (by simp)).trans (World.alloc_heap_new w _)
  have hsz1 : W1.heap.size = w.heap.size + 2 := by rw [← hW1]; simp
  have hstart : I [] W1 := by rw [← hW1]; exact hI.alloc _ (hI.alloc _ h0)
  have hbel : Below w0.heap.size w0 W1 := by
    rw [← hW1]; exact (hb0.alloc hb0.size _).alloc (by rw [World.size_alloc]; have := hb0.size; omega) _
  obtain ⟨J, hJ⟩ : ∃ J : List α → World → Prop, J = fun pre W => I pre W ∧ W.heap[w.heap.size + 1]? = some (.loop (rec .ready none)) ∧ W.heap[w.heap.size]? = some (.deferred (some [])) := ⟨_, rfl⟩
  have hJa : AbidesFrom W1.heap.size J := by
    rw [hJ]
    intro s A B row hs hgr hr
    refine ⟨hI s A B row hs.1 hgr (fun r e => ?_), (grownBy_keeps hgr (fun r e => (hr r e).2) hs.2.1 rfl).trans hs.2.1, (grownBy_keeps hgr (fun r e => (hr r e).2) hs.2.2 rfl).trans hs.2.2⟩
    obtain ⟨hB, o, ho, hw⟩ := hr r e
    exact ⟨by omega, o, ho, Obj.not_cells_of_walk hw⟩
  refine ⟨w.heap.size + 1, [{ target := .collected w.heap.size, args := #[] }], W1, { target := .fn (.func gf) lb, args := #[.func (.yield (w.heap.size + 1)) #[] #[]] }, W1, gf,
    #[.func (.yield (w.heap.size + 1)) #[] #[]] ++ lb, W1, ?_, ?_, ?_, ?_, fun _ => h1, ?_⟩
  · rw [← hW1, hrec]; exact run_enterLoop_outer _ _ _ _ _
  · simp only [resolve, hg]
    simp [go_sem]
  · intro f' hf'; simp [Target.leads] at hf'; subst hf'; exact hFg
  · simp [invoke, go_sem, eg]
  · refine (hseq (w.heap.size + 1) J W1 hbel hJa (by
      rw [hJ]
      rintro pre A B hs ⟨h1, h2, h3⟩
      exact ⟨hSI pre A B hs h1, (hSk A B _ hs (by omega)).trans h2, (hSk A B _ hs (Nat.le_refl _)).trans h3⟩) ?_ (by rw [hJ]; exact ⟨hstart, hL, hD⟩)).mono ?_
    · intro pre x W hjp hrd
      rw [hJ] at hjp ⊢
      obtain ⟨hi, hl, hk⟩ := hjp
      have hlt := lt_of_heap hl
      have hy := run_yield (P := P) (args := encs x) hl (by rw [hrec]; exact hps x)
      rw [hrec] at hy
      refine ⟨fn, _, assign, body, hy, roundIn_of_wpIn hfn (hassign _ x W _ ⟨_, run_beginRound hl (by rw [hrec]), ?_⟩)⟩
      have hbusy : (W.putObj (w.heap.size + 1) (.loop { rec .ready none with state := .busy })).heap[w.heap.size + 1]? = some (.loop { rec .ready none with state := .busy }) := World.putObj_heap_same hlt
      have hdef : (W.putObj (w.heap.size + 1) (.loop { rec .ready none with state := .busy })).heap[w.heap.size]? = some (.deferred (some [])) := (World.putObj_heap_other (by omega)).trans hk
      have hkp : Kp W (W.putObj (w.heap.size + 1) (.loop { rec .ready none with state := .busy })) := hKb _ _ _ _ (by omega) hl rfl rfl
      refine wpIn_mono (hbody _ pre x _ (hI.putObj _ hi (by omega) hl rfl) (hRd pre x W _ _ _ hrd hl rfl)) ?_
      rintro e a3 W3 hp
      cases e with
      | normal =>
        obtain ⟨hk3, hkp3, hi3⟩ := hp
        have hl3 := hk3.same _ _ (by omega) hbusy rfl
        have hr := run_endRound (P := P) none hl3
        rw [hrec] at hr hl3
        have hl4 : (W3.putObj (w.heap.size + 1) (.loop (rec .ready none))).heap[w.heap.size + 1]? = some (.loop (rec .ready none)) := World.putObj_heap_same (lt_of_heap hl3)
        refine ⟨_, _, hr, rfl, ⟨?_, ?_, ?_⟩, ?_⟩
        · exact hI.putObj _ hi3 (by omega) hl3 rfl
        · rw [hrec] at hl4 ⊢; exact hl4
        · exact (World.putObj_heap_other (by omega)).trans (hk3.same _ _ (Nat.le_refl _) hdef rfl)
        · exact hKt (hKt hkp hkp3) (hKb _ _ _ _ (by omega) hl3 rfl rfl)
      | ret => exact hp.elim
      | exit id => exact hp.elim
      | goto t => exact hp.elim
      | panic ch => exact hp.elim
      | outgrown => exact hp.elim
    · rintro e W2 ⟨⟨v, rfl⟩, xs, hS, hj⟩
      rw [hJ] at hj
      obtain ⟨hi, hl, hk⟩ := hj
      refine ⟨none, _, by have := run_endLoop (P := P) hl (by rw [hrec]; simp); rw [hrec] at this; exact this, ?_⟩
      exact hdone _ xs _ (Nat.le_refl _) hS (hI.putObj _ hi (by omega) hl rfl) ((World.putObj_heap_other (by omega)).trans hk)
end Go.Proofs.YtpijpeocdlnhiaaGreatDoor
namespace Go.Proofs.YtpijpeocdlnhiaaGreatDoor
set_option linter.unusedVariables false
set_option linter.unusedSimpArgs false
open Go.RowKit Go.Shelf

attribute [local go_sem] Oper.semAt_some

def u8v (c : UInt8) : Value := .int .u8 c.toNat
def byts (l : List UInt8) : List Value := l.map u8v
theorem byts_length (a : List UInt8) : (byts a).length = a.length := List.length_map ..
theorem byts_append (a b : List UInt8) : byts (a ++ b) = byts a ++ byts b := List.map_append ..
theorem byts_one (a : List UInt8) : ∀ u ∈ byts a, u.oneCell' = true := by
  intro u hu
  obtain ⟨c, _, rfl⟩ := List.mem_map.1 hu
  rfl
/-- The bytes of a number: seven bits in each, the least ones first. -/
def uintL (x : Nat) : List UInt8 := if h : x < 128 then [UInt8.ofNat x] else UInt8.ofNat (x % 128 + 128) :: uintL (x / 128)
termination_by x
decreasing_by omega
theorem uintL_small {x : Nat} (h : x < 128) : uintL x = [UInt8.ofNat x] := by rw [uintL, dif_pos h]
theorem uintL_big {x : Nat} (h : ¬ x < 128) : uintL x = UInt8.ofNat (x % 128 + 128) :: uintL (x / 128) := by rw [uintL, dif_neg h]
theorem uintL_len : ∀ (k x : Nat), x < 128 ^ (k + 1) → (uintL x).length ≤ k + 1
  | 0, x, h => by rw [uintL_small (by simpa using h)]; simp
  | k + 1, x, h => by
    by_cases hx : x < 128
    · rw [uintL_small hx]; simp
    · rw [uintL_big hx, List.length_cons]
      have := uintL_len k (x / 128) (by rw [Nat.div_lt_iff_lt_mul (by decide), ← Nat.pow_succ]; exact h)
      omega
theorem uintL_ten {x : Nat} (h : x < 18446744073709551616) : (uintL x).length ≤ 10 := uintL_len 9 x (Nat.lt_of_lt_of_le h (by decide))
theorem uintL_pos (x : Nat) : 1 ≤ (uintL x).length := by
  by_cases hx : x < 128
  · rw [uintL_small hx]; simp
  · rw [uintL_big hx]; simp
def StB (bb : Nat) (A B : World) : Prop := ∃ v, B = A.setCell ⟨bb, 0, none⟩ v
def KpX (bb : Nat) (A B : World) : Prop := B.heap[bb]? = A.heap[bb]?
def encB (c : UInt8) : Array Value := #[.int .u8 c.toNat]
def boxN (bb : Nat) (w : World) : Nat := match w.heap[bb]? with
  | some (.cells cs _ _) => (RowKit.intOf (cs.getD 0 undef)).toNat
  | _ => 0
theorem boxN_of {bb : Nat} {w : World} {x : Nat} {t : TypeId} (h : w.heap[bb]? = some (.cells #[.int .u64 x] t (0, 0))) : boxN bb w = x := by
  unfold boxN; rw [h]; simp [RowKit.intOf]
theorem high_all : ∀ n : Fin 256, bits BinOp.or IntKind.u8 ((n.val : Nat) : Int) 128 = (((UInt8.ofNat (n.val % 128 + 128)).toNat : Nat) : Int) := by decide +kernel
theorem high_at (x : Nat) : bits BinOp.or IntKind.u8 (((x % 256 : Nat)) : Int) 128 = (((UInt8.ofNat (x % 128 + 128)).toNat : Nat) : Int) := by
  have h := high_all ⟨x % 256, Nat.mod_lt _ (by decide)⟩
  rw [h]
  congr 3
  show x % 256 % 128 + 128 = _
  omega
set_option maxRecDepth 100000 in
set_option maxHeartbeats 1000000 in
/-- The iterator's function. -/
theorem digits_seq (n : Nat) (hn : 1 ≤ n) (x : Nat) (hx : x < 18446744073709551616) (bb : Nat) (w : World) (hbb : w.heap[bb]? = some (.cells #[.int .u64 x] 70 (0, 0))) :
    SeqBox Fence.wide n Tryz.prog 139 #[.pointer (some ⟨bb, 0, none⟩)] encB (fun pre _ _ => pre.length < 10) (KpX bb) (StB bb) (fun xs => xs = uintL x) w := by
  intro ly J W hW hJ hS hY h0
  have hro : Fence.wide.round = none := rfl
  have hbx : W.heap[bb]? = some (.cells #[.int .u64 x] 70 (0, 0)) := (hW.block bb (lt_of_heap hbb)).trans hbb
  have HX0 := Lib.hid hbx
  have HJ0 := Lib.hid h0
  have HS := Lib.hid hS
  have HY := Lib.hid hY
  obtain ⟨D, hD⟩ : ∃ D, D = uintL x := ⟨_, rfl⟩
  rw [← hD]
  have HD := Lib.hid hD
  have hD10 : D.length ≤ 10 := by rw [hD]; exact uintL_ten hx
  clear hJ hY h0 hbb hW hbx hS hD
  refine callsIn_of_wp Tryz.func139 rfl trivial ?_ hro
  simp only [Tryz.ntmps139, List.size_toArray, List.length_cons, List.length_nil, Nat.reduceAdd, Nat.reduceSub, Array.replicate_succ, Array.replicate_zero, List.push_toArray, List.append_toArray, List.nil_append, List.cons_append]
  gi_wp2
  gi_loopw [] (fun wr => ∃ (pre : List UInt8) (y : Nat), y < 18446744073709551616 ∧ Hid (J pre wr) ∧ Hid (wr.heap[bb]? = some (.cells #[.int .u64 y] 70 (0, 0))) ∧ Hid (D = pre ++ uintL y)) (fun wr => boxN bb wr)
  case atStart => exact ⟨[], x, hx, HJ0, HX0, by rw [Hid, HD.out]; rfl⟩
  case round =>
    obtain ⟨pre, y, hy, HJ, HX, HL⟩ := hrel
    have hc := cellAt HX.out 0 rfl
    have hf := freeAt HX.out 0
    have hpl : pre.length < 10 := by have h1 := uintL_pos y; have h2 := congrArg List.length HL.out; rw [List.length_append] at h2; omega
    by_cases hlt : y < 128
    · have hb : ¬ ((y : Int) ≥ 128) := by omega
      have hFD : Hid (D = pre ++ [UInt8.ofNat y]) := by rw [Hid, HL.out, uintL_small hlt]
      obtain ⟨fn, tmps, assign, body, hyl, hR⟩ := HY.out pre (UInt8.ofNat y) wr HJ.out hpl
      have he : (((UInt8.ofNat y).toNat : Nat) : Int) = (y : Int) := by rw [UInt8.toNat_ofNat']; omega
      dsimp only [encB] at hyl
      rw [he] at hyl
      clear he HL HJ
      gi_wp2
      refine hR.mono ?_
      rintro e W3 ⟨rfl, hJ3, hk3⟩
      have HJ3 := Lib.hid hJ3
      clear hR hyl hJ3 hk3
      gi_wp2
      go_end0
      exact ⟨⟨_, rfl⟩, _, hFD.out.symm, HJ3.out⟩
    · have hb : ((y : Int) ≥ 128) := by omega
      have hFD : Hid (D = (pre ++ [UInt8.ofNat (y % 128 + 128)]) ++ uintL (y / 128)) := by rw [Hid, HL.out, uintL_big hlt]; simp
      obtain ⟨fn, tmps, assign, body, hyl, hR⟩ := HY.out pre (UInt8.ofNat (y % 128 + 128)) wr HJ.out hpl
      have he : bits BinOp.or IntKind.u8 ((y : Int) % 256) 128 = (((UInt8.ofNat (y % 128 + 128)).toNat : Nat) : Int) := high_at y
      dsimp only [encB] at hyl
      rw [← he] at hyl
      clear he HL HJ
      gi_wp2
      refine hR.mono ?_
      rintro e W3 ⟨rfl, hJ3, hk3⟩
      have HX3 : Hid (W3.heap[bb]? = some (.cells #[.int .u64 y] 70 (0, 0))) := Eq.trans hk3 HX.out
      have HJ3 := Lib.hid hJ3
      have hc3 := cellAt HX3.out 0 rfl
      have hf3 := freeAt HX3.out 0
      have hbn := boxN_of HX.out
      clear hR hyl hJ3 hk3 hc hf HX
      gi_wp2
      have hX4 : Hid ((W3.setCell ⟨bb, 0, none⟩ (.int .u64 ((y / 128 : Nat) : Int))).heap[bb]? = some (.cells #[.int .u64 ((y / 128 : Nat) : Int)] 70 (0, 0))) := heap_store HX3.out 0 _
      refine ⟨⟨pre ++ [UInt8.ofNat (y % 128 + 128)], y / 128, by omega, HS.out _ _ _ ⟨_, rfl⟩ HJ3.out, hX4, hFD⟩, ?_⟩
      have h9 := boxN_of hX4.out
      rw [hbn]
      show boxN bb (W3.setCell ⟨bb, 0, none⟩ (.int .u64 ((y / 128 : Nat) : Int))) < y
      rw [h9]
      omega
def Typed (W : World) (e : TypeId) (k : Nat) : Prop := ∃ cs, W.heap[k]? = some (.cells cs e (0, 0))
theorem Row.typed {w : World} {e : TypeId} {size : Nat} {v : Value} {n : Nat} {xs : List Value} {S : Nat → Prop} (h : Row w e size v n xs S) : Row w e size v n xs (fun k => S k ∧ Typed w e k) := by
  obtain ⟨hl, h⟩ := h
  rcases h with h | ⟨g, off, cap, cur, hv, hS, hg, r⟩
  · exact ⟨hl, .inl h⟩
  · exact ⟨hl, .inr ⟨g, off, cap, cur, hv, ⟨hS, cur, hg⟩, hg, r⟩⟩
theorem Row.keepT {w w' : World} {e : TypeId} {size : Nat} {v : Value} {n : Nat} {xs : List Value} {S : Nat → Prop} (h : Row w e size v n xs S) (hb : ∀ k, S k → Typed w e k → k < w.heap.size → w'.heap[k]? = w.heap[k]?) : Row w' e size v n xs S :=
  (h.typed.frame (fun k hk hlt => hb k hk.1 hk.2 hlt)).mono (fun k hk => hk.1)
theorem own_cells {W W' : World} {row : Option Nat} (hg : W.grownBy W' row) (hr : ∀ r, row = some r → ∃ o : Obj, W.heap[r]? = some o ∧ o.isCells = false) {k : Nat} {cs : Array Value} {e : TypeId} {fr : Nat × Nat} (hk : W.heap[k]? = some (.cells cs e fr)) : W'.heap[k]? = W.heap[k]? :=
  hg.block k (lt_of_heap hk) (fun h => by
    obtain ⟨o, ho, hc⟩ := hr k h.symm
    rw [hk] at ho; cases ho; cases hc)
theorem below_grownU {B : Nat} {W W' : World} (h : Below W.heap.size W W') : W.grownBy W' none := ⟨h.os, h.tape, h.output, h.size, fun k hk _ => h.block k hk⟩

set_option maxHeartbeats 1000000 in
theorem digits_in (n : Nat) (x : Int) (w : World) :
    CallsIn Fence.wide n Tryz.prog 109 #[.int .u64 x] w fun e w' => e = .returned (.func (.func 139) #[] #[.pointer (some ⟨w.heap.size, 0, none⟩)]) ∧ w' = w.alloc (.cells #[.int .u64 x] 70) := by
  refine callsIn_of_wp Tryz.func109 rfl trivial ?_ rfl
  simp only [Tryz.ntmps109, List.size_toArray, List.length_cons, List.length_nil, Nat.reduceAdd, Nat.reduceSub, Array.replicate_succ, Array.replicate_zero, List.push_toArray, List.append_toArray, List.nil_append, List.cons_append]
  gi_wp2
  go_ret
  exact ⟨rfl, rfl⟩
theorem wpListIn_row {F : Fence} {d : Nat} {P : Program} {t e : TypeId} {z : Value} {size bytes : Nat} (hE : ElemOf P t e z size bytes) {w : World} {ops : Array Oper} {rest : List Oper} {o : Oper} {a : Act} {Q : Exit → Act → World → Prop} (hgd : o.guard = none) {s x : Operand}
    (ho : o.op = .call { callee := .builtin .append, args := #[s, x], argTypes := #[t, t] })
    {S : Nat → Prop} {v : Value} {n : Nat} {xs : List Value} (hs : a.eval s = v) (hown : Row w e size v n xs S)
    {y : Value} {m : Nat} {news : List Value} (hx : a.eval x = y) (hy : Reads w y m size news) (h1 : ∀ u ∈ news, u.oneCell' = true)
    (h63 : n + m ≤ maxLen) (hbytes : (n + m) * bytes ≤ 140737488355328)
    (h : ∀ v' w', Row w' e size v' (n + m) (xs ++ news) (fun k => S k ∨ w.heap.size ≤ k) → Chg S w w' → wpListIn F d P ops Q rest (a.put o.dst v') w') : wpListIn F d P ops Q (o :: rest) a w := by
  refine wpListIn_plain hgd fun K hK => ?_
  subst hs; subst hx
  obtain ⟨v', w', hrun, r1, r2⟩ := run_append_row hE o.type w S _ n xs hown _ m news hy h1 h63 hbytes
  unfold Oper.wpIn
  refine ⟨?_, ?_⟩
  · simp [Oper.about, ho, resolve, Target.leads, Sem.run_pure]
  · rw [Oper.semAt_plain F _ _ (by rw [ho]; intro c hc'; cases hc')]
    simp [execOp, ho, resolve, invoke, builtin, hrun, Result.andThen]
    exact hK _ _ (h v' w' r1 r2)

/-- Bytes that a function has made. -/
def BytesP (w : World) (l : List UInt8) (e : Ending) (w' : World) : Prop :=
  ∃ (a : Option Addr) (c : Nat), e = .returned (.slice a l.length c) ∧ Row w' 5 1 (.slice a l.length c) l.length (byts l) (fun k => w.heap.size ≤ k) ∧ Below w.heap.size w w'
/-- What the loop of Uint has made. -/
structure UintI (w : World) (pre : List UInt8) (W : World) : Prop where
  box : ∃ ov, W.heap[w.heap.size]? = some (.cells #[ov] 33 (0, 0)) ∧ Row W 5 1 ov pre.length (byts pre) (fun k => w.heap.size + 2 ≤ k)
  bel : Below w.heap.size w W
  siz : w.heap.size + 2 ≤ W.heap.size
theorem uintI_own (w : World) (B : Nat) (hB : w.heap.size ≤ B) : OwnFrom B (UintI w) := by
  intro s W W' row h hg hr
  have hc : ∀ r, row = some r → ∃ o : Obj, W.heap[r]? = some o ∧ o.isCells = false := fun r e => (hr r e).2
  obtain ⟨⟨ov, h1, h2⟩, h3, h4⟩ := h
  refine ⟨⟨ov, (own_cells hg hc h1).trans h1, h2.keepT (fun k _ ⟨cs, hk⟩ _ => own_cells hg hc hk)⟩, ?_, Nat.le_trans h4 hg.size⟩
  exact h3.grown hg h3.size (fun k e => by have := (hr k e).1; omega)
theorem uintI_st (w : World) (pre : List UInt8) (A B : World) (h : StB (w.heap.size + 1) A B) (hI : UintI w pre A) : UintI w pre B := by
  obtain ⟨v, rfl⟩ := h
  obtain ⟨⟨ov, h1, h2⟩, h3, h4⟩ := hI
  have hb : ∀ k, k ≠ w.heap.size + 1 → (A.setCell ⟨w.heap.size + 1, 0, none⟩ v).heap[k]? = A.heap[k]? := fun k hk => Below.heap_setCell _ _ _ _ hk
  exact ⟨⟨ov, (hb _ (by omega)).trans h1, h2.frame (fun k hk _ => hb k (by omega))⟩, h3.setCell (Nat.le_succ _) _, by simpa [World.setCell] using h4⟩
theorem uint_step {w W w5 : World} {pre : List UInt8} {c : UInt8} {ov v5 : Value} (o : Obj) (hI : UintI w pre W) (hx4 : W.heap[w.heap.size]? = some (.cells #[ov] 33 (0, 0)))
    (hr5 : Row w5 5 1 v5 (pre.length + 1) (byts pre ++ [Value.int .u8 c.toNat]) (fun k => (w.heap.size + 2 ≤ k ∧ Typed W 5 k) ∨ (W.alloc o).heap.size ≤ k))
    (hch : Chg (fun k => w.heap.size + 2 ≤ k ∧ Typed W 5 k) (W.alloc o) w5) :
    KeepsFrom (w.heap.size + 2) W (w5.setCell ⟨w.heap.size, 0, none⟩ v5) ∧ KpX (w.heap.size + 1) W (w5.setCell ⟨w.heap.size, 0, none⟩ v5) ∧ UintI w (pre ++ [c]) (w5.setCell ⟨w.heap.size, 0, none⟩ v5) := by
  have hBW := hI.siz
  have hk5 : ∀ k, k < W.heap.size → ¬ (w.heap.size + 2 ≤ k ∧ Typed W 5 k) → w5.heap[k]? = W.heap[k]? := fun k hk hn => (hch.block k (by simp; omega) hn).trans (Below.heap_alloc _ _ _ hk)
  have h4 : w5.heap[w.heap.size]? = some (.cells #[ov] 33 (0, 0)) := (hk5 _ (lt_of_heap hx4) (fun h => by omega)).trans hx4
  obtain ⟨w6, hw6⟩ : ∃ w6, w6 = w5.setCell ⟨w.heap.size, 0, none⟩ v5 := ⟨_, rfl⟩
  have h46 : w6.heap[w.heap.size]? = some (.cells #[v5] 33 (0, 0)) := by rw [hw6]; exact heap_store h4 0 v5
  have ho6 : ∀ k, k ≠ w.heap.size → w6.heap[k]? = w5.heap[k]? := fun k hk => by rw [hw6]; exact Below.heap_setCell _ _ _ _ (by simpa using hk)
  have hs6 : w6.heap.size = w5.heap.size := by rw [hw6]; simp [World.setCell]
  have ho6' : w6.os = w5.os ∧ w6.tape = w5.tape ∧ w6.output = w5.output := by rw [hw6]; exact ⟨rfl, rfl, rfl⟩
  rw [← hw6]
  clear hw6
  have hsW : W.heap.size ≤ w6.heap.size := by have := hch.size; simp only [World.size_alloc] at this; omega
  have hbel : Below w.heap.size W w6 := ⟨by rw [ho6'.1, hch.os]; rfl, by rw [ho6'.2.1, hch.tape]; rfl, by rw [ho6'.2.2, hch.output]; rfl, hsW, fun k hk => (ho6 k (by omega)).trans (hk5 k (by omega) (fun h => by omega))⟩
  refine ⟨⟨hsW, fun k ob hk hob hc => ?_⟩, (ho6 _ (by omega)).trans (hk5 _ (by omega) (fun h => by omega)), ⟨v5, h46, ?_⟩, hI.bel.trans hbel, by omega⟩
  · refine ((ho6 k (by omega)).trans (hk5 k (lt_of_heap hob) (fun ⟨_, cs, h⟩ => ?_))).trans hob
    rw [hob] at h; cases h; cases hc
  · rw [List.length_append, List.length_singleton]
    have e : byts (pre ++ [c]) = byts pre ++ [Value.int .u8 c.toNat] := by unfold byts; simp [u8v]
    rw [e]
    refine (hr5.keepT (w' := w6) (fun k _ ⟨cs, hc⟩ _ => ho6 k (fun e => by subst e; rw [h4] at hc; simp at hc))).mono (fun k hk => ?_)
    rcases hk with hk | hk
    · exact hk.1
    · simp only [World.size_alloc] at hk; omega
set_option maxRecDepth 100000 in
set_option maxHeartbeats 1000000 in
theorem uint_any (x : Nat) (hx : x < 18446744073709551616) (w : World) : Calls Tryz.prog 72 #[.int .u64 x] w (BytesP w (uintL x)) := by
  have hro : Fence.wide.round = none := rfl
  refine (callsIn_wide (n := 4)).1 ?_
  refine callsIn_of_wp_marks Tryz.func72 rfl trivial ?_ hro
  simp only [Tryz.ntmps72, List.size_toArray, List.length_cons, List.length_nil, Nat.reduceAdd, Nat.reduceSub, Array.replicate_succ, Array.replicate_zero, List.push_toArray, List.append_toArray, List.nil_append, List.cons_append]
  gi_wp2_with (refine ⟨trivial, ?_⟩; gi_at_call 109; refine (digits_in _ _ _).mono ?_; rintro e w' ⟨rfl, rfl⟩)
  obtain ⟨W0, hW0⟩ : ∃ W0, W0 = ((w.alloc (.cells #[.slice none 0 0] 33)).alloc (.cells #[.int .u64 x] 70)) := ⟨_, rfl⟩
  have hb3 : W0.heap[w.heap.size]? = some (.cells #[.slice none 0 0] 33 (0, 0)) := by
    rw [hW0]; exact (Below.heap_alloc _ _ _ (by simp)).trans (heap_alloc_new w _)
  have hbb : W0.heap[w.heap.size + 1]? = some (.cells #[.int .u64 x] 70 (0, 0)) := by
    have h := heap_alloc_new (w.alloc (.cells #[.slice none 0 0] 33)) (.cells #[.int .u64 x] 70)
    rw [World.size_alloc] at h
    rw [hW0]; exact h
  have hB0 : Below w.heap.size w W0 := by
    rw [hW0]; exact ((Below.refl _ w).alloc (Nat.le_refl _) _).alloc (by simp) _
  have hsz : W0.heap.size = w.heap.size + 2 := by rw [hW0]; simp
  rw [← hW0]
  clear hW0
  refine wpIn_rangeBox hro (by omega) (gf := 139) (lb := #[.pointer (some ⟨w.heap.size + 1, 0, none⟩)]) rfl trivial (enters_of Tryz.func139 (by kernel_rfl) rfl)
    (digits_seq (4 - 1) (by omega) x hx (w.heap.size + 1) W0 hbb) ?hRd (fun h1 h2 => Eq.trans h2 h1) ?hKb (Below.refl _ _) (fun _ => rfl) ?hSk (UintI w) (fun pre A B h hI => uintI_st w pre A B h hI) (uintI_own w _ hB0.size)
    ⟨⟨_, hb3, Row.nil _ _ _ _⟩, hB0, by omega⟩
    (fun c => { tmps := #[.int .u64 x, undef, .slice none 0 0, .pointer (some ⟨w.heap.size, 0, none⟩), .int .u8 c.toNat, .int .u64 x, .func (.func 139) #[] #[.pointer (some ⟨w.heap.size + 1, 0, none⟩)], .int .u8 c.toNat, undef, undef, undef, undef, undef], defers := [] }) ?assign ?body ?done
  case hRd =>
    rintro pre x W l' o o' hR hl' ho
    exact hR
  case hKb =>
    intro W l' o o' hl' ho hc hw
    exact World.putObj_heap_other (by omega)
  case hSk =>
    rintro A B k ⟨v, rfl⟩ hk
    exact Below.heap_setCell _ _ _ _ (by show k ≠ w.heap.size + 1; omega)
  case assign =>
    intro l' x W K hK
    dsimp only [encB]
    gi_wp2
    exact hK
  case body =>
    rintro l' pre c W hI hRd
    have HST := Lib.hid (fun (v5 : Value) (w5 : World) (o : Obj) (ov : Value) h4 => uint_step (c := c) (w5 := w5) (v5 := v5) (ov := ov) o hI h4)
    obtain ⟨⟨ov, hx4, hrow⟩, hB, hHS⟩ := hI
    obtain ⟨-, oa, oc, hov, -⟩ := hrow.reads
    subst hov
    have hc4 := cellAt hx4 0 rfl
    have ht := hrow.typed
    rw [hsz]
    gi_wp2_with (
      gi_at_builtin
      refine wpListIn_row elemU8 rfl rfl (S := fun k => w.heap.size + 2 ≤ k ∧ Typed W 5 k) (n := pre.length) (xs := byts pre) rfl (ht.frame (fun k _ hk => Below.heap_alloc _ _ _ hk)) (y := .slice (some ⟨W.heap.size, 0, none⟩) 1 1) (m := 1) (news := [.int .u8 c.toNat]) rfl (reads_one W _ _) (one_of rfl) (by unfold maxLen; omega) (by omega) ?_
      intro v5 w5 hr5 hch5
      have hk4 := ((hch5.block w.heap.size (by have := lt_of_heap hx4; simp; omega) (fun h => by omega)).trans (Below.heap_alloc _ _ _ (lt_of_heap hx4))).trans hx4
      have hc45 := cellAt hk4 0 rfl
      have hf45 := freeAt hk4 0
      obtain ⟨-, va, vc, hv5, -⟩ := hr5.reads
      subst hv5
      have HS5 := Lib.hid (HST.out _ _ _ _ hx4 hr5 hch5))
    exact HS5.out
  case done =>
    rintro D xs W hD rfl ⟨⟨ov, hx4, hrow⟩, hB, hHS⟩ hK
    obtain ⟨-, oa, oc, hov, -⟩ := hrow.reads
    subst hov
    have hc4 := cellAt hx4 0 rfl
    gi_wp2
    refine ⟨by simp, .inl ⟨_, _, rfl, run_takeDeferred (w := W) hK, ?_⟩⟩
    refine ⟨_, results_tmp rfl _ _ _, oa, oc, rfl, ?_, ?_⟩
    · refine (hrow.keepT (fun k _ ⟨cs, hk⟩ _ => ?_)).mono (fun k hk => by have := hk; omega)
      exact World.putObj_heap_other (fun e => by subst e; rw [hk] at hK; cases hK)
    · exact hB.trans (belowK_b (w := W0) hB0.size W D _ _ hD hK rfl rfl)
end Go.Proofs.YtpijpeocdlnhiaaGreatDoor
