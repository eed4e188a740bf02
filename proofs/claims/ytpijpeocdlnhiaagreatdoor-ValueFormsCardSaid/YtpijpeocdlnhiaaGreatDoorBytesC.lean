/- A loop over a function that counts in a box of its own and hands over its members; its rounds never leave; no program in sight.
bin.Uint: the bytes of a number, by a loop over the function of its digits.
The bytes of payloads that are no list: bin.Int, bin.Text, the methods of the kinds.
The bytes of a list of payloads.
value.form and value.Bytes. Printed by a program. -/
import Derived.RangeFuncNested
import Derived.RangeFuncBound
import Derived.RangeFuncCalls
import Derived.RangeFuncLeaves
import Derived.Shelf.Abstract
import Derived.Shelf.RegionOpen
import Derived.WalkKit
import Derived.OwnWalkIn
import Derived.TacticsInMore
import Derived.LoopNIn
import Derived.LoopIn
import Derived.Test.YtpijpeocdlnhiaaGreatDoorHeap
import Derived.Test.YtpijpeocdlnhiaaGreatDoorArms
import Derived.Test.YtpijpeocdlnhiaaGreatDoorPText
import Derived.Maps.AppendAt
import Derived.Test.YtpijpeocdlnhiaaGreatDoorKind
import Derived.Test.YtpijpeocdlnhiaaGreatDoorTPlainC
import Derived.Deep.AppendSrc
import Derived.Test.YtpijpeocdlnhiaaGreatDoorTopValid
import Derived.Test.YtpijpeocdlnhiaaGreatDoorTTextC
namespace Go.Proofs.YtpijpeocdlnhiaaGreatDoor
set_option linter.unusedVariables false
set_option linter.unusedSimpArgs false
open Go.RowKit Go.Shelf

/-- What an iterator's function does: it hands over the members of a list one after another; between them it may store into its box (St). -/
def SeqBox {α : Type} (F : Fence) (n : Nat) (P : Program) (g : Nat) (lb : Array Value) (encs : α → Array Value) (Rd : List α → α → World → Prop) (Kp : World → World → Prop) (St : World → World → Prop) (S : List α → Prop) (w : World) : Prop :=
  ∀ (l : Nat) (J : List α → World → Prop) (W : World), Below w.heap.size w W → AbidesFrom W.heap.size J → (∀ pre A B, St A B → J pre A → J pre B) →
    (∀ pre x W1, J pre W1 → Rd pre x W1 → YieldAt F (n - 1) P l (encs x) W1 fun e W' => e = .returned (.bool true) ∧ J (pre ++ [x]) W' ∧ Kp W1 W') →
    J [] W → CallsIn F n P g (#[.func (.yield l) #[] #[]] ++ lb) W fun e W' => (∃ v, e = .returned v) ∧ ∃ xs, S xs ∧ J xs W'

/-- A round ends where its body ends. -/
def boxPost {α : Type} (B : Nat) (Kp : World → World → Prop) (I : List α → World → Prop) (xs : List α) (W : World) : Exit → Act → World → Prop
  | .normal, _, W' => KeepsFrom B W W' ∧ Kp W W' ∧ I xs W'
  | _, _, _ => False

theorem wpIn_rangeBox {F : Fence} {n : Nat} {P : Program} {α : Type} {g : Operand} {ps : Array Tmp} {assign body : Code} {Q : Exit → Act → World → Prop} {a : Act} {w : World}
    (hro : F.round = none) (h1 : 1 ≤ n) {gf : Nat} {lb : Array Value} (hg : a.eval g = .func (.func gf) #[] lb) (hFg : F.fn gf) (eg : ∀ args w, (callFunc gf args).run P w = .ok (.enter gf args) w)
    {encs : α → Array Value} {Rd : List α → α → World → Prop} {Kp : World → World → Prop} {S : List α → Prop} {w0 : World} {St : World → World → Prop} (hseq : SeqBox F (n - 1) P gf lb encs Rd Kp St S w0)
    (hRd : ∀ (pre : List α) (x : α) (W : World) (l : Nat) (o o' : Obj), Rd pre x W → W.heap[l]? = some o → o.isCells = false → Rd pre x (W.putObj l o'))
    (hKt : ∀ {A B C : World}, Kp A B → Kp B C → Kp A C) (hKb : ∀ (W : World) (l : Nat) (o o' : Obj), w.heap.size ≤ l → W.heap[l]? = some o → o.isCells = false → o.isWalk = false → Kp W (W.putObj l o')) (hb0 : Below w0.heap.size w0 w) (hps : ∀ x, (encs x).size = ps.size)
    (hSk : ∀ (A B : World) (k : Nat), St A B → w.heap.size ≤ k → B.heap[k]? = A.heap[k]?)
    (I : List α → World → Prop) (hSI : ∀ pre A B, St A B → I pre A → I pre B) (hI : OwnFrom w.heap.size I) (h0 : I [] w) (a₁ : α → Act)
    (hassign : ∀ (l : Nat) (x : α) (W : World) (K : Act → World → Prop), K (a₁ x) W →
      assign.wpIn (F.inRound l) (n - 1 - 1) P (Exit.then K (fun _ _ _ => False)) { tmps := (ps.zip (encs x)).foldl (fun t (p, v) => t.setIfInBounds p v) a.tmps, defers := [] } W)
    (hbody : ∀ (l : Nat) (pre : List α) (x : α) (W : World), I pre W → Rd pre x W → body.wpIn (F.inRound l) (n - 1 - 1) P (boxPost w.heap.size Kp I (pre ++ [x]) W) (a₁ x) W)
    (hdone : ∀ (D : Nat) (xs : List α) (W : World), w.heap.size ≤ D → S xs → I xs W → W.heap[D]? = some (.deferred (some [])) → Q .normal { a with defers := { target := .collected D, args := #[] } :: a.defers } W) :
    (Code.rangeFunc g ps assign body).wpIn F n P Q a w := by
  refine wpIn_rangeFunc ?_
  intro fn hfn
  rw [hro]
  obtain ⟨rec, hrec⟩ : ∃ rec : LoopState → Option Code → Loop, rec = fun st pe => { state := st, pending := pe, fn, tmps := a.tmps, params := ps, assign, body, defers := w.heap.size } := ⟨_, rfl⟩
  obtain ⟨W1, hW1⟩ : ∃ W1, (w.alloc (.deferred (some []))).alloc (.loop (rec .ready none)) = W1 := ⟨_, rfl⟩
  have hL : W1.heap[w.heap.size + 1]? = some (.loop (rec .ready none)) := by
    have h := World.alloc_heap_new (w.alloc (.deferred (some []))) (.loop (rec .ready none))
    rw [World.size_alloc] at h
    rw [← hW1]; exact h
  have hD : W1.heap[w.heap.size]? = some (.deferred (some [])) := by
    rw [← hW1]; exact (Below.heap_alloc _ _ _ (by simp)).trans (World.alloc_heap_new w _)
  have hsz1 : W1.heap.size = w.heap.size + 2 := by rw [← hW1]; simp
  have hstart : I [] W1 := by rw [← hW1]; exact hI.alloc _ (hI.alloc _ h0)
  have hbel : Below w0.heap.size w0 W1 := by
    rw [← hW1]; exact (hb0.alloc hb0.size _).alloc (by rw [World.size_alloc]; have := hb0.size; omega) _
  obtain ⟨J, hJ⟩ : ∃ J : List α → World → Prop, J = fun pre W => I pre W ∧ W.heap[w.heap.size + 1]? = some (.loop (rec .ready none)) ∧ W.heap[w.heap.size]? = some (.deferred (some [])) := ⟨_, rfl⟩
  have hJa : AbidesFrom W1.heap.size J := by
    rw [hJ]
    intro s A B row hs hgr hr
    refine ⟨hI s A B row hs.1 hgr (fun r e => ?_), (grownBy_keeps hgr (fun r e => (hr r e).2) hs.2.1 rfl).trans hs.2.1, (grownBy_keeps hgr (fun r e => (hr r e).2) hs.2.2 rfl).trans hs.2.2⟩
    obtain ⟨hB, o, ho, hw⟩ := hr r e
    exact ⟨by omega, o, ho, Obj.not_cells_of_walk hw⟩
  refine ⟨w.heap.size + 1, [{ target := .collected w.heap.size, args := #[] }], W1, { target := .fn (.func gf) lb, args := #[.func (.yield (w.heap.size + 1)) #[] #[]] }, W1, gf,
    #[.func (.yield (w.heap.size + 1)) #[] #[]] ++ lb, W1, ?_, ?_, ?_, ?_, fun _ => h1, ?_⟩
  · rw [← hW1, hrec]; exact run_enterLoop_outer _ _ _ _ _
  · simp only [resolve, hg]
    simp [go_sem]
  · intro f' hf'; simp [Target.leads] at hf'; subst hf'; exact hFg
  · simp [invoke, go_sem, eg]
  · refine (hseq (w.heap.size + 1) J W1 hbel hJa (by
      rw [hJ]
      rintro pre A B hs ⟨h1, h2, h3⟩
      exact ⟨hSI pre A B hs h1, (hSk A B _ hs (by omega)).trans h2, (hSk A B _ hs (Nat.le_refl _)).trans h3⟩) ?_ (by rw [hJ]; exact ⟨hstart, hL, hD⟩)).mono ?_
    · intro pre x W hjp hrd
      rw [hJ] at hjp ⊢
      obtain ⟨hi, hl, hk⟩ := hjp
      have hlt := lt_of_heap hl
      have hy := run_yield (P := P) (args := encs x) hl (by rw [hrec]; exact hps x)
      rw [hrec] at hy
      refine ⟨fn, _, assign, body, hy, roundIn_of_wpIn hfn (hassign _ x W _ ⟨_, run_beginRound hl (by rw [hrec]), ?_⟩)⟩
      have hbusy : (W.putObj (w.heap.size + 1) (.loop { rec .ready none with state := .busy })).heap[w.heap.size + 1]? = some (.loop { rec .ready none with state := .busy }) := World.putObj_heap_same hlt
      have hdef : (W.putObj (w.heap.size + 1) (.loop { rec .ready none with state := .busy })).heap[w.heap.size]? = some (.deferred (some [])) := (World.putObj_heap_other (by omega)).trans hk
      have hkp : Kp W (W.putObj (w.heap.size + 1) (.loop { rec .ready none with state := .busy })) := hKb _ _ _ _ (by omega) hl rfl rfl
      refine wpIn_mono (hbody _ pre x _ (hI.putObj _ hi (by omega) hl rfl) (hRd pre x W _ _ _ hrd hl rfl)) ?_
      rintro e a3 W3 hp
      cases e with
      | normal =>
        obtain ⟨hk3, hkp3, hi3⟩ := hp
        have hl3 := hk3.same _ _ (by omega) hbusy rfl
        have hr := run_endRound (P := P) none hl3
        rw [hrec] at hr hl3
        have hl4 : (W3.putObj (w.heap.size + 1) (.loop (rec .ready none))).heap[w.heap.size + 1]? = some (.loop (rec .ready none)) := World.putObj_heap_same (lt_of_heap hl3)
        refine ⟨_, _, hr, rfl, ⟨?_, ?_, ?_⟩, ?_⟩
        · exact hI.putObj _ hi3 (by omega) hl3 rfl
        · rw [hrec] at hl4 ⊢; exact hl4
        · exact (World.putObj_heap_other (by omega)).trans (hk3.same _ _ (Nat.le_refl _) hdef rfl)
        · exact hKt (hKt hkp hkp3) (hKb _ _ _ _ (by omega) hl3 rfl rfl)
      | ret => exact hp.elim
      | exit id => exact hp.elim
      | goto t => exact hp.elim
      | panic ch => exact hp.elim
      | outgrown => exact hp.elim
    · rintro e W2 ⟨⟨v, rfl⟩, xs, hS, hj⟩
      rw [hJ] at hj
      obtain ⟨hi, hl, hk⟩ := hj
      refine ⟨none, _, by have := run_endLoop (P := P) hl (by rw [hrec]; simp); rw [hrec] at this; exact this, ?_⟩
      exact hdone _ xs _ (Nat.le_refl _) hS (hI.putObj _ hi (by omega) hl rfl) ((World.putObj_heap_other (by omega)).trans hk)
end Go.Proofs.YtpijpeocdlnhiaaGreatDoor
namespace Go.Proofs.YtpijpeocdlnhiaaGreatDoor
set_option linter.unusedVariables false
set_option linter.unusedSimpArgs false
open Go.RowKit Go.Shelf

attribute [local go_sem] Oper.semAt_some

def u8v (c : UInt8) : Value := .int .u8 c.toNat
def byts (l : List UInt8) : List Value := l.map u8v
theorem byts_length (a : List UInt8) : (byts a).length = a.length := List.length_map ..
theorem byts_append (a b : List UInt8) : byts (a ++ b) = byts a ++ byts b := List.map_append ..
theorem byts_one (a : List UInt8) : ∀ u ∈ byts a, u.oneCell' = true := by
  intro u hu
  obtain ⟨c, _, rfl⟩ := List.mem_map.1 hu
  rfl
/-- The bytes of a number: seven bits in each, the least ones first. -/
def uintL (x : Nat) : List UInt8 := if h : x < 128 then [UInt8.ofNat x] else UInt8.ofNat (x % 128 + 128) :: uintL (x / 128)
termination_by x
decreasing_by omega
theorem uintL_small {x : Nat} (h : x < 128) : uintL x = [UInt8.ofNat x] := by rw [uintL, dif_pos h]
theorem uintL_big {x : Nat} (h : ¬ x < 128) : uintL x = UInt8.ofNat (x % 128 + 128) :: uintL (x / 128) := by rw [uintL, dif_neg h]
theorem uintL_len : ∀ (k x : Nat), x < 128 ^ (k + 1) → (uintL x).length ≤ k + 1
  | 0, x, h => by rw [uintL_small (by simpa using h)]; simp
  | k + 1, x, h => by
    by_cases hx : x < 128
    · rw [uintL_small hx]; simp
    · rw [uintL_big hx, List.length_cons]
      have := uintL_len k (x / 128) (by rw [Nat.div_lt_iff_lt_mul (by decide), ← Nat.pow_succ]; exact h)
      omega
theorem uintL_ten {x : Nat} (h : x < 18446744073709551616) : (uintL x).length ≤ 10 := uintL_len 9 x (Nat.lt_of_lt_of_le h (by decide))
theorem uintL_pos (x : Nat) : 1 ≤ (uintL x).length := by
  by_cases hx : x < 128
  · rw [uintL_small hx]; simp
  · rw [uintL_big hx]; simp
def StB (bb : Nat) (A B : World) : Prop := ∃ v, B = A.setCell ⟨bb, 0, none⟩ v
def KpX (bb : Nat) (A B : World) : Prop := B.heap[bb]? = A.heap[bb]?
def encB (c : UInt8) : Array Value := #[.int .u8 c.toNat]
def boxN (bb : Nat) (w : World) : Nat := match w.heap[bb]? with
  | some (.cells cs _ _) => (RowKit.intOf (cs.getD 0 undef)).toNat
  | _ => 0
theorem boxN_of {bb : Nat} {w : World} {x : Nat} {t : TypeId} (h : w.heap[bb]? = some (.cells #[.int .u64 x] t (0, 0))) : boxN bb w = x := by
  unfold boxN; rw [h]; simp [RowKit.intOf]
theorem high_all : ∀ n : Fin 256, bits BinOp.or IntKind.u8 ((n.val : Nat) : Int) 128 = (((UInt8.ofNat (n.val % 128 + 128)).toNat : Nat) : Int) := by decide +kernel
theorem high_at (x : Nat) : bits BinOp.or IntKind.u8 (((x % 256 : Nat)) : Int) 128 = (((UInt8.ofNat (x % 128 + 128)).toNat : Nat) : Int) := by
  have h := high_all ⟨x % 256, Nat.mod_lt _ (by decide)⟩
  rw [h]
  congr 3
  show x % 256 % 128 + 128 = _
  omega
set_option maxRecDepth 100000 in
set_option maxHeartbeats 1000000 in
/-- The iterator's function. -/
theorem digits_seq (n : Nat) (hn : 1 ≤ n) (x : Nat) (hx : x < 18446744073709551616) (bb : Nat) (w : World) (hbb : w.heap[bb]? = some (.cells #[.int .u64 x] 70 (0, 0))) :
    SeqBox Fence.wide n Tryz.prog 139 #[.pointer (some ⟨bb, 0, none⟩)] encB (fun pre _ _ => pre.length < 10) (KpX bb) (StB bb) (fun xs => xs = uintL x) w := by
  intro ly J W hW hJ hS hY h0
  have hro : Fence.wide.round = none := rfl
  have hbx : W.heap[bb]? = some (.cells #[.int .u64 x] 70 (0, 0)) := (hW.block bb (lt_of_heap hbb)).trans hbb
  have HX0 := Lib.hid hbx
  have HJ0 := Lib.hid h0
  have HS := Lib.hid hS
  have HY := Lib.hid hY
  obtain ⟨D, hD⟩ : ∃ D, D = uintL x := ⟨_, rfl⟩
  rw [← hD]
  have HD := Lib.hid hD
  have hD10 : D.length ≤ 10 := by rw [hD]; exact uintL_ten hx
  clear hJ hY h0 hbb hW hbx hS hD
  refine callsIn_of_wp Tryz.func139 rfl trivial ?_ hro
  simp only [Tryz.ntmps139, List.size_toArray, List.length_cons, List.length_nil, Nat.reduceAdd, Nat.reduceSub, Array.replicate_succ, Array.replicate_zero, List.push_toArray, List.append_toArray, List.nil_append, List.cons_append]
  gi_wp2
  gi_loopw [] (fun wr => ∃ (pre : List UInt8) (y : Nat), y < 18446744073709551616 ∧ Hid (J pre wr) ∧ Hid (wr.heap[bb]? = some (.cells #[.int .u64 y] 70 (0, 0))) ∧ Hid (D = pre ++ uintL y)) (fun wr => boxN bb wr)
  case atStart => exact ⟨[], x, hx, HJ0, HX0, by rw [Hid, HD.out]; rfl⟩
  case round =>
    obtain ⟨pre, y, hy, HJ, HX, HL⟩ := hrel
    have hc := cellAt HX.out 0 rfl
    have hf := freeAt HX.out 0
    have hpl : pre.length < 10 := by have h1 := uintL_pos y; have h2 := congrArg List.length HL.out; rw [List.length_append] at h2; omega
    by_cases hlt : y < 128
    · have hb : ¬ ((y : Int) ≥ 128) := by omega
      have hFD : Hid (D = pre ++ [UInt8.ofNat y]) := by rw [Hid, HL.out, uintL_small hlt]
      obtain ⟨fn, tmps, assign, body, hyl, hR⟩ := HY.out pre (UInt8.ofNat y) wr HJ.out hpl
      have he : (((UInt8.ofNat y).toNat : Nat) : Int) = (y : Int) := by rw [UInt8.toNat_ofNat']; omega
      dsimp only [encB] at hyl
      rw [he] at hyl
      clear he HL HJ
      gi_wp2
      refine hR.mono ?_
      rintro e W3 ⟨rfl, hJ3, hk3⟩
      have HJ3 := Lib.hid hJ3
      clear hR hyl hJ3 hk3
      gi_wp2
      go_end0
      exact ⟨⟨_, rfl⟩, _, hFD.out.symm, HJ3.out⟩
    · have hb : ((y : Int) ≥ 128) := by omega
      have hFD : Hid (D = (pre ++ [UInt8.ofNat (y % 128 + 128)]) ++ uintL (y / 128)) := by rw [Hid, HL.out, uintL_big hlt]; simp
      obtain ⟨fn, tmps, assign, body, hyl, hR⟩ := HY.out pre (UInt8.ofNat (y % 128 + 128)) wr HJ.out hpl
      have he : bits BinOp.or IntKind.u8 ((y : Int) % 256) 128 = (((UInt8.ofNat (y % 128 + 128)).toNat : Nat) : Int) := high_at y
      dsimp only [encB] at hyl
      rw [← he] at hyl
      clear he HL HJ
      gi_wp2
      refine hR.mono ?_
      rintro e W3 ⟨rfl, hJ3, hk3⟩
      have HX3 : Hid (W3.heap[bb]? = some (.cells #[.int .u64 y] 70 (0, 0))) := Eq.trans hk3 HX.out
      have HJ3 := Lib.hid hJ3
      have hc3 := cellAt HX3.out 0 rfl
      have hf3 := freeAt HX3.out 0
      have hbn := boxN_of HX.out
      clear hR hyl hJ3 hk3 hc hf HX
      gi_wp2
      have hX4 : Hid ((W3.setCell ⟨bb, 0, none⟩ (.int .u64 ((y / 128 : Nat) : Int))).heap[bb]? = some (.cells #[.int .u64 ((y / 128 : Nat) : Int)] 70 (0, 0))) := heap_store HX3.out 0 _
      refine ⟨⟨pre ++ [UInt8.ofNat (y % 128 + 128)], y / 128, by omega, HS.out _ _ _ ⟨_, rfl⟩ HJ3.out, hX4, hFD⟩, ?_⟩
      have h9 := boxN_of hX4.out
      rw [hbn]
      show boxN bb (W3.setCell ⟨bb, 0, none⟩ (.int .u64 ((y / 128 : Nat) : Int))) < y
      rw [h9]
      omega
def Typed (W : World) (e : TypeId) (k : Nat) : Prop := ∃ cs, W.heap[k]? = some (.cells cs e (0, 0))
theorem Row.typed {w : World} {e : TypeId} {size : Nat} {v : Value} {n : Nat} {xs : List Value} {S : Nat → Prop} (h : Row w e size v n xs S) : Row w e size v n xs (fun k => S k ∧ Typed w e k) := by
  obtain ⟨hl, h⟩ := h
  rcases h with h | ⟨g, off, cap, cur, hv, hS, hg, r⟩
  · exact ⟨hl, .inl h⟩
  · exact ⟨hl, .inr ⟨g, off, cap, cur, hv, ⟨hS, cur, hg⟩, hg, r⟩⟩
theorem Row.keepT {w w' : World} {e : TypeId} {size : Nat} {v : Value} {n : Nat} {xs : List Value} {S : Nat → Prop} (h : Row w e size v n xs S) (hb : ∀ k, S k → Typed w e k → k < w.heap.size → w'.heap[k]? = w.heap[k]?) : Row w' e size v n xs S :=
  (h.typed.frame (fun k hk hlt => hb k hk.1 hk.2 hlt)).mono (fun k hk => hk.1)
theorem own_cells {W W' : World} {row : Option Nat} (hg : W.grownBy W' row) (hr : ∀ r, row = some r → ∃ o : Obj, W.heap[r]? = some o ∧ o.isCells = false) {k : Nat} {cs : Array Value} {e : TypeId} {fr : Nat × Nat} (hk : W.heap[k]? = some (.cells cs e fr)) : W'.heap[k]? = W.heap[k]? :=
  hg.block k (lt_of_heap hk) (fun h => by
    obtain ⟨o, ho, hc⟩ := hr k h.symm
    rw [hk] at ho; cases ho; cases hc)
theorem below_grownU {B : Nat} {W W' : World} (h : Below W.heap.size W W') : W.grownBy W' none := ⟨h.os, h.tape, h.output, h.size, fun k hk _ => h.block k hk⟩

set_option maxHeartbeats 1000000 in
theorem digits_in (n : Nat) (x : Int) (w : World) :
    CallsIn Fence.wide n Tryz.prog 109 #[.int .u64 x] w fun e w' => e = .returned (.func (.func 139) #[] #[.pointer (some ⟨w.heap.size, 0, none⟩)]) ∧ w' = w.alloc (.cells #[.int .u64 x] 70) := by
  refine callsIn_of_wp Tryz.func109 rfl trivial ?_ rfl
  simp only [Tryz.ntmps109, List.size_toArray, List.length_cons, List.length_nil, Nat.reduceAdd, Nat.reduceSub, Array.replicate_succ, Array.replicate_zero, List.push_toArray, List.append_toArray, List.nil_append, List.cons_append]
  gi_wp2
  go_ret
  exact ⟨rfl, rfl⟩
theorem wpListIn_row {F : Fence} {d : Nat} {P : Program} {t e : TypeId} {z : Value} {size bytes : Nat} (hE : ElemOf P t e z size bytes) {w : World} {ops : Array Oper} {rest : List Oper} {o : Oper} {a : Act} {Q : Exit → Act → World → Prop} (hgd : o.guard = none) {s x : Operand}
    (ho : o.op = .call { callee := .builtin .append, args := #[s, x], argTypes := #[t, t] })
    {S : Nat → Prop} {v : Value} {n : Nat} {xs : List Value} (hs : a.eval s = v) (hown : Row w e size v n xs S)
    {y : Value} {m : Nat} {news : List Value} (hx : a.eval x = y) (hy : Reads w y m size news) (h1 : ∀ u ∈ news, u.oneCell' = true)
    (h63 : n + m ≤ maxLen) (hbytes : (n + m) * bytes ≤ 140737488355328)
    (h : ∀ v' w', Row w' e size v' (n + m) (xs ++ news) (fun k => S k ∨ w.heap.size ≤ k) → Chg S w w' → wpListIn F d P ops Q rest (a.put o.dst v') w') : wpListIn F d P ops Q (o :: rest) a w := by
  refine wpListIn_plain hgd fun K hK => ?_
  subst hs; subst hx
  obtain ⟨v', w', hrun, r1, r2⟩ := run_append_row hE o.type w S _ n xs hown _ m news hy h1 h63 hbytes
  unfold Oper.wpIn
  refine ⟨?_, ?_⟩
  · simp [Oper.about, ho, resolve, Target.leads, Sem.run_pure]
  · rw [Oper.semAt_plain F _ _ (by rw [ho]; intro c hc'; cases hc')]
    simp [execOp, ho, resolve, invoke, builtin, hrun, Result.andThen]
    exact hK _ _ (h v' w' r1 r2)

/-- Bytes that a function has made. -/
def BytesP (w : World) (l : List UInt8) (e : Ending) (w' : World) : Prop :=
  ∃ (a : Option Addr) (c : Nat), e = .returned (.slice a l.length c) ∧ Row w' 5 1 (.slice a l.length c) l.length (byts l) (fun k => w.heap.size ≤ k) ∧ Below w.heap.size w w'
/-- What the loop of Uint has made. -/
structure UintI (w : World) (pre : List UInt8) (W : World) : Prop where
  box : ∃ ov, W.heap[w.heap.size]? = some (.cells #[ov] 33 (0, 0)) ∧ Row W 5 1 ov pre.length (byts pre) (fun k => w.heap.size + 2 ≤ k)
  bel : Below w.heap.size w W
  siz : w.heap.size + 2 ≤ W.heap.size
theorem uintI_own (w : World) (B : Nat) (hB : w.heap.size ≤ B) : OwnFrom B (UintI w) := by
  intro s W W' row h hg hr
  have hc : ∀ r, row = some r → ∃ o : Obj, W.heap[r]? = some o ∧ o.isCells = false := fun r e => (hr r e).2
  obtain ⟨⟨ov, h1, h2⟩, h3, h4⟩ := h
  refine ⟨⟨ov, (own_cells hg hc h1).trans h1, h2.keepT (fun k _ ⟨cs, hk⟩ _ => own_cells hg hc hk)⟩, ?_, Nat.le_trans h4 hg.size⟩
  exact h3.grown hg h3.size (fun k e => by have := (hr k e).1; omega)
theorem uintI_st (w : World) (pre : List UInt8) (A B : World) (h : StB (w.heap.size + 1) A B) (hI : UintI w pre A) : UintI w pre B := by
  obtain ⟨v, rfl⟩ := h
  obtain ⟨⟨ov, h1, h2⟩, h3, h4⟩ := hI
  have hb : ∀ k, k ≠ w.heap.size + 1 → (A.setCell ⟨w.heap.size + 1, 0, none⟩ v).heap[k]? = A.heap[k]? := fun k hk => Below.heap_setCell _ _ _ _ hk
  exact ⟨⟨ov, (hb _ (by omega)).trans h1, h2.frame (fun k hk _ => hb k (by omega))⟩, h3.setCell (Nat.le_succ _) _, by simpa [World.setCell] using h4⟩
theorem uint_step {w W w5 : World} {pre : List UInt8} {c : UInt8} {ov v5 : Value} (o : Obj) (hI : UintI w pre W) (hx4 : W.heap[w.heap.size]? = some (.cells #[ov] 33 (0, 0)))
    (hr5 : Row w5 5 1 v5 (pre.length + 1) (byts pre ++ [Value.int .u8 c.toNat]) (fun k => (w.heap.size + 2 ≤ k ∧ Typed W 5 k) ∨ (W.alloc o).heap.size ≤ k))
    (hch : Chg (fun k => w.heap.size + 2 ≤ k ∧ Typed W 5 k) (W.alloc o) w5) :
    KeepsFrom (w.heap.size + 2) W (w5.setCell ⟨w.heap.size, 0, none⟩ v5) ∧ KpX (w.heap.size + 1) W (w5.setCell ⟨w.heap.size, 0, none⟩ v5) ∧ UintI w (pre ++ [c]) (w5.setCell ⟨w.heap.size, 0, none⟩ v5) := by
  have hBW := hI.siz
  have hk5 : ∀ k, k < W.heap.size → ¬ (w.heap.size + 2 ≤ k ∧ Typed W 5 k) → w5.heap[k]? = W.heap[k]? := fun k hk hn => (hch.block k (by simp; omega) hn).trans (Below.heap_alloc _ _ _ hk)
  have h4 : w5.heap[w.heap.size]? = some (.cells #[ov] 33 (0, 0)) := (hk5 _ (lt_of_heap hx4) (fun h => by omega)).trans hx4
  obtain ⟨w6, hw6⟩ : ∃ w6, w6 = w5.setCell ⟨w.heap.size, 0, none⟩ v5 := ⟨_, rfl⟩
  have h46 : w6.heap[w.heap.size]? = some (.cells #[v5] 33 (0, 0)) := by rw [hw6]; exact heap_store h4 0 v5
  have ho6 : ∀ k, k ≠ w.heap.size → w6.heap[k]? = w5.heap[k]? := fun k hk => by rw [hw6]; exact Below.heap_setCell _ _ _ _ (by simpa using hk)
  have hs6 : w6.heap.size = w5.heap.size := by rw [hw6]; simp [World.setCell]
  have ho6' : w6.os = w5.os ∧ w6.tape = w5.tape ∧ w6.output = w5.output := by rw [hw6]; exact ⟨rfl, rfl, rfl⟩
  rw [← hw6]
  clear hw6
  have hsW : W.heap.size ≤ w6.heap.size := by have := hch.size; simp only [World.size_alloc] at this; omega
  have hbel : Below w.heap.size W w6 := ⟨by rw [ho6'.1, hch.os]; rfl, by rw [ho6'.2.1, hch.tape]; rfl, by rw [ho6'.2.2, hch.output]; rfl, hsW, fun k hk => (ho6 k (by omega)).trans (hk5 k (by omega) (fun h => by omega))⟩
  refine ⟨⟨hsW, fun k ob hk hob hc => ?_⟩, (ho6 _ (by omega)).trans (hk5 _ (by omega) (fun h => by omega)), ⟨v5, h46, ?_⟩, hI.bel.trans hbel, by omega⟩
  · refine ((ho6 k (by omega)).trans (hk5 k (lt_of_heap hob) (fun ⟨_, cs, h⟩ => ?_))).trans hob
    rw [hob] at h; cases h; cases hc
  · rw [List.length_append, List.length_singleton]
    have e : byts (pre ++ [c]) = byts pre ++ [Value.int .u8 c.toNat] := by unfold byts; simp [u8v]
    rw [e]
    refine (hr5.keepT (w' := w6) (fun k _ ⟨cs, hc⟩ _ => ho6 k (fun e => by subst e; rw [h4] at hc; simp at hc))).mono (fun k hk => ?_)
    rcases hk with hk | hk
    · exact hk.1
    · simp only [World.size_alloc] at hk; omega
set_option maxRecDepth 100000 in
set_option maxHeartbeats 1000000 in
theorem uint_any (x : Nat) (hx : x < 18446744073709551616) (w : World) : Calls Tryz.prog 72 #[.int .u64 x] w (BytesP w (uintL x)) := by
  have hro : Fence.wide.round = none := rfl
  refine (callsIn_wide (n := 4)).1 ?_
  refine callsIn_of_wp_marks Tryz.func72 rfl trivial ?_ hro
  simp only [Tryz.ntmps72, List.size_toArray, List.length_cons, List.length_nil, Nat.reduceAdd, Nat.reduceSub, Array.replicate_succ, Array.replicate_zero, List.push_toArray, List.append_toArray, List.nil_append, List.cons_append]
  gi_wp2_with (refine ⟨trivial, ?_⟩; gi_at_call 109; refine (digits_in _ _ _).mono ?_; rintro e w' ⟨rfl, rfl⟩)
  obtain ⟨W0, hW0⟩ : ∃ W0, W0 = ((w.alloc (.cells #[.slice none 0 0] 33)).alloc (.cells #[.int .u64 x] 70)) := ⟨_, rfl⟩
  have hb3 : W0.heap[w.heap.size]? = some (.cells #[.slice none 0 0] 33 (0, 0)) := by
    rw [hW0]; exact (Below.heap_alloc _ _ _ (by simp)).trans (heap_alloc_new w _)
  have hbb : W0.heap[w.heap.size + 1]? = some (.cells #[.int .u64 x] 70 (0, 0)) := by
    have h := heap_alloc_new (w.alloc (.cells #[.slice none 0 0] 33)) (.cells #[.int .u64 x] 70)
    rw [World.size_alloc] at h
    rw [hW0]; exact h
  have hB0 : Below w.heap.size w W0 := by
    rw [hW0]; exact ((Below.refl _ w).alloc (Nat.le_refl _) _).alloc (by simp) _
  have hsz : W0.heap.size = w.heap.size + 2 := by rw [hW0]; simp
  rw [← hW0]
  clear hW0
  refine wpIn_rangeBox hro (by omega) (gf := 139) (lb := #[.pointer (some ⟨w.heap.size + 1, 0, none⟩)]) rfl trivial (enters_of Tryz.func139 (by kernel_rfl) rfl)
    (digits_seq (4 - 1) (by omega) x hx (w.heap.size + 1) W0 hbb) ?hRd (fun h1 h2 => Eq.trans h2 h1) ?hKb (Below.refl _ _) (fun _ => rfl) ?hSk (UintI w) (fun pre A B h hI => uintI_st w pre A B h hI) (uintI_own w _ hB0.size)
    ⟨⟨_, hb3, Row.nil _ _ _ _⟩, hB0, by omega⟩
    (fun c => { tmps := #[.int .u64 x, undef, .slice none 0 0, .pointer (some ⟨w.heap.size, 0, none⟩), .int .u8 c.toNat, .int .u64 x, .func (.func 139) #[] #[.pointer (some ⟨w.heap.size + 1, 0, none⟩)], .int .u8 c.toNat, undef, undef, undef, undef, undef], defers := [] }) ?assign ?body ?done
  case hRd =>
    rintro pre x W l' o o' hR hl' ho
    exact hR
  case hKb =>
    intro W l' o o' hl' ho hc hw
    exact World.putObj_heap_other (by omega)
  case hSk =>
    rintro A B k ⟨v, rfl⟩ hk
    exact Below.heap_setCell _ _ _ _ (by show k ≠ w.heap.size + 1; omega)
  case assign =>
    intro l' x W K hK
    dsimp only [encB]
    gi_wp2
    exact hK
  case body =>
    rintro l' pre c W hI hRd
    have HST := Lib.hid (fun (v5 : Value) (w5 : World) (o : Obj) (ov : Value) h4 => uint_step (c := c) (w5 := w5) (v5 := v5) (ov := ov) o hI h4)
    obtain ⟨⟨ov, hx4, hrow⟩, hB, hHS⟩ := hI
    obtain ⟨-, oa, oc, hov, -⟩ := hrow.reads
    subst hov
    have hc4 := cellAt hx4 0 rfl
    have ht := hrow.typed
    rw [hsz]
    gi_wp2_with (
      gi_at_builtin
      refine wpListIn_row elemU8 rfl rfl (S := fun k => w.heap.size + 2 ≤ k ∧ Typed W 5 k) (n := pre.length) (xs := byts pre) rfl (ht.frame (fun k _ hk => Below.heap_alloc _ _ _ hk)) (y := .slice (some ⟨W.heap.size, 0, none⟩) 1 1) (m := 1) (news := [.int .u8 c.toNat]) rfl (reads_one W _ _) (one_of rfl) (by unfold maxLen; omega) (by omega) ?_
      intro v5 w5 hr5 hch5
      have hk4 := ((hch5.block w.heap.size (by have := lt_of_heap hx4; simp; omega) (fun h => by omega)).trans (Below.heap_alloc _ _ _ (lt_of_heap hx4))).trans hx4
      have hc45 := cellAt hk4 0 rfl
      have hf45 := freeAt hk4 0
      obtain ⟨-, va, vc, hv5, -⟩ := hr5.reads
      subst hv5
      have HS5 := Lib.hid (HST.out _ _ _ _ hx4 hr5 hch5))
    exact HS5.out
  case done =>
    rintro D xs W hD rfl ⟨⟨ov, hx4, hrow⟩, hB, hHS⟩ hK
    obtain ⟨-, oa, oc, hov, -⟩ := hrow.reads
    subst hov
    have hc4 := cellAt hx4 0 rfl
    gi_wp2
    refine ⟨by simp, .inl ⟨_, _, rfl, run_takeDeferred (w := W) hK, ?_⟩⟩
    refine ⟨_, results_tmp rfl _ _ _, oa, oc, rfl, ?_, ?_⟩
    · refine (hrow.keepT (fun k _ ⟨cs, hk⟩ _ => ?_)).mono (fun k hk => by have := hk; omega)
      exact World.putObj_heap_other (fun e => by subst e; rw [hk] at hK; cases hK)
    · exact hB.trans (belowK_b (w := W0) hB0.size W D _ _ hD hK rfl rfl)
end Go.Proofs.YtpijpeocdlnhiaaGreatDoor
namespace Go.Proofs.YtpijpeocdlnhiaaGreatDoor
set_option linter.unusedVariables false
set_option linter.unusedSimpArgs false
open Go.RowKit

/-- append of a string onto an owned row of bytes. -/
theorem run_append_row_str {P : Program} {t u e : TypeId} {z : Value} (hE : ElemOf P t e z 1 1) (hu : P.underlying u = some .string) (ty : TypeId) (w : World) (S : Nat → Prop)
    (v : Value) (n : Nat) (xs : List Value) (hrow : Row w e 1 v n xs S) (hn0 : 0 < n) (s : ByteArray) (h63 : n + s.size ≤ maxLen) (hbytes : n + s.size ≤ 140737488355328) :
    ∃ v' w', (Builtin.append_ #[t, u] ty #[v, .string s]).run P w = .ok v' w' ∧ Row w' e 1 v' (n + s.size) (xs ++ byts s.data.toList) (fun k => S k ∨ w.heap.size ≤ k) ∧ Chg S w w' := by
  obtain ⟨i, hi, hz, hs, hb⟩ := info_parts hE.info
  have hSrc : Src P i.size u (.string s) s.size (byts s.data.toList) w := by rw [hs]; exact Src.ofString w hu s
  have hl : (byts s.data.toList).length = s.size * i.size := by rw [byts_length, hs, Nat.mul_one, bsize]
  rcases hrow.2 with ⟨rfl, rfl⟩ | ⟨g, off, cap, cur, rfl, hS, hg, hn, hm, hcs, ht⟩
  · omega
  · rw [← hs] at hrow hcs ht
    by_cases hroom : n + s.size ≤ cap
    · have hfit : off + n * i.size + (byts s.data.toList).length ≤ cur.size := by
        rw [hl, Nat.add_assoc, ← Nat.add_mul]
        have := Nat.mul_le_mul_right i.size hroom
        omega
      have hr := run_append_room_src (P := P) w t u ty e i hE.und hi g off n cap (.string s) s.size (byts s.data.toList) hSrc hroom
        (fun j hj => by rw [cellAt hg (off + n * i.size + j) (Array.getElem?_eq_getElem (by omega))]; rfl) (fun j hj => freeAt hg _)
      have hsame := setCells_same g e (byts s.data.toList) (off + n * i.size) w cur hg hfit
      refine ⟨_, _, hr, ⟨by rw [List.length_append, hrow.1, hl, hs, Nat.mul_one, Nat.mul_one, Nat.mul_one], .inr ⟨g, off, cap, _, rfl, .inl hS, hsame, hroom, hm, ?_, ?_⟩⟩, ?_⟩
      · simp only [List.size_toArray, List.length_append, List.length_take, List.length_drop, Array.length_toList]
        rw [hs] at *
        omega
      · simp only
        have hxl : xs.length = n * i.size := hrow.1
        have e1 : cur.toList.take (off + n * i.size) = cur.toList.take off ++ xs := by
          rw [← ht, List.take_add]
        rw [e1]
        have hto : (cur.toList.take off).length = off := by rw [List.length_take]; simp; omega
        rw [List.append_assoc, List.append_assoc, List.drop_left' hto, ← List.append_assoc]
        rw [List.take_left' (by rw [List.length_append, hxl, hl, hs]; omega)]
      · have hos := setCells_os g (byts s.data.toList) (off + n * i.size) w
        exact ⟨hos.1, hos.2.1, hos.2.2, by rw [setCells_size]; exact Nat.le_refl _, fun k hk hkS => setCells_other g (byts s.data.toList) _ w k (fun e => hkS (by rw [e]; exact hS))⟩
    · obtain ⟨hl0, _⟩ := hrow
      have holds : ∀ j u, xs[j]? = some u → w.drew.cell? ((⟨g, off, none⟩ : Addr).add j) = some u := by
        intro j u hu
        have hrd : Reads w (.slice (some ⟨g, off, none⟩) n cap) n i.size xs := Row.reads (S := S) ⟨hl0, .inr ⟨g, off, cap, cur, rfl, hS, hg, hn, hm, hcs, ht⟩⟩
        obtain ⟨_, ao, c', hv, _, _, hc⟩ := hrd
        cases hv
        exact hc _ rfl j u hu
      have hold := run_firstCells_some (P := P) w.drew i.size n ⟨g, off, none⟩ n cap xs hl0 holds
      have hlen : (xs ++ byts s.data.toList).length = (n + s.size) * i.size := by rw [List.length_append, hl0, hl, Nat.add_mul]
      have hge := grownCap_ge w (n + s.size) cap e
      have hcm : grownCap w (n + s.size) cap e ≤ maxLen := grownCap_le_maxLen w (n + s.size) cap e h63
      have hzs : z.cells.size = i.size := by rw [hs]; exact hE.zsize
      have hr := run_append_grow_src (P := P) w t u ty e i z hE.und hi hz (some ⟨g, off, none⟩) n cap xs hold (.string s) s.size (byts s.data.toList) hSrc (by omega) (by simp only [maxLen] at h63; omega) (growslice_fits (by omega) (by rw [hb, Nat.mul_one]; exact hbytes))
      refine ⟨_, _, hr, ⟨by rw [hlen, hs], .inr ⟨w.heap.size, 0, _, _, rfl, .inr (Nat.le_refl _), heap_alloc_new w.drew _, hge, hcm, ?_, ?_⟩⟩, ?_⟩
      · simp only [Array.size_append, List.size_toArray, size_zeroCells, hzs, hlen, hs]
        omega
      · simp only [Array.toList_append, List.drop_zero]
        rw [List.take_left' (by rw [hlen, hs])]
      · refine (Chg.refl S w).grown (row := none) ?_ (fun k hk => by cases hk)
        exact ⟨rfl, rfl, rfl, by simp, fun k hk _ => heap_alloc_old w.drew _ k hk⟩
theorem wpList_row_str {P : Program} {t u e : TypeId} {z : Value} (hE : ElemOf P t e z 1 1) (hu : P.underlying u = some .string) {w : World} {ops : Array Oper} {rest : List Oper} {o : Oper} {a : Act} {Q : Exit → Act → World → Prop} (hgd : o.guard = none) {sl x : Operand}
    (ho : o.op = .call { callee := .builtin .append, args := #[sl, x], argTypes := #[t, u] })
    {S : Nat → Prop} {v : Value} {n : Nat} {xs : List Value} (hs : a.eval sl = v) (hown : Row w e 1 v n xs S) (hn0 : 0 < n)
    {s : ByteArray} (hx : a.eval x = .string s) (h63 : n + s.size ≤ maxLen) (hbytes : n + s.size ≤ 140737488355328)
    (h : ∀ v' w', Row w' e 1 v' (n + s.size) (xs ++ byts s.data.toList) (fun k => S k ∨ w.heap.size ≤ k) → Chg S w w' → wpList P ops Q rest (a.put o.dst v') w') : wpList P ops Q (o :: rest) a w := by
  refine wpList_plain hgd fun K hK => ?_
  subst hs
  obtain ⟨v', w', hrun, r1, r2⟩ := run_append_row_str hE hu o.type w S _ n xs hown hn0 s h63 hbytes
  unfold Oper.wp
  simp [execOp, ho, resolve, invoke, builtin, hx, hrun, Result.andThen]
  exact hK _ _ (h v' w' r1 r2)
/-- A number with a sign as one without. -/
def zz (n : Int) : Nat := if 0 ≤ n then (2 * n).toNat else (2 * (-(n + 1)) + 1).toNat
theorem BytesP.mono {w0 w : World} {l : List UInt8} {e : Ending} {w' : World} (hb : Below w0.heap.size w0 w) (h : BytesP w l e w') : BytesP w0 l e w' := by
  obtain ⟨a, c, rfl, hr, hb2⟩ := h
  exact ⟨a, c, rfl, hr.mono (fun k hk => Nat.le_trans hb.size hk), hb.trans (hb2.mono hb.size)⟩
theorem xor_ones (a : Nat) (ha : a < 18446744073709551616) : bits .xor .u64 (a : Int) 18446744073709551615 = ((18446744073709551615 - a : Nat) : Int) := by
  have h := u64_xor_nat a 18446744073709551615 ha (by decide)
  have e : (a ^^^ 18446744073709551615) = 18446744073709551615 - a := by
    have h1 : (BitVec.ofNat 64 a ^^^ BitVec.allOnes 64).toNat = (~~~ (BitVec.ofNat 64 a)).toNat := by rw [BitVec.xor_allOnes]
    rw [BitVec.toNat_xor, BitVec.toNat_not, BitVec.toNat_ofNat, Nat.mod_eq_of_lt ha] at h1
    exact h1
  rw [← e]
  exact h
theorem zz_bits (n : Int) (hn : -9223372036854775808 ≤ n ∧ n ≤ 9223372036854775807) :
    bits BinOp.xor IntKind.u64 (IntKind.u64.wrap (wrap64 (n * 2))) (IntKind.u64.wrap (n / 9223372036854775808)) = (zz n : Int) := by
  rw [IntKind.wrap_u64, IntKind.wrap_u64]
  unfold wrap64 zz
  split
  · rename_i h
    have e1 : ((n * 2 + 9223372036854775808) % 18446744073709551616 - 9223372036854775808) % 18446744073709551616 = (((2 * n).toNat : Nat) : Int) := by omega
    have e2 : n / 9223372036854775808 % 18446744073709551616 = ((0 : Nat) : Int) := by omega
    rw [e1, e2, u64_xor_nat _ _ (by omega) (by decide)]
    simp
  · rename_i h
    obtain ⟨a, ha⟩ : ∃ a : Nat, (a : Int) = n * 2 + 18446744073709551616 := ⟨(n * 2 + 18446744073709551616).toNat, by omega⟩
    have e1 : ((n * 2 + 9223372036854775808) % 18446744073709551616 - 9223372036854775808) % 18446744073709551616 = (a : Int) := by omega
    have e2 : n / 9223372036854775808 % 18446744073709551616 = 18446744073709551615 := by omega
    rw [e1, e2, xor_ones a (by omega)]
    omega
theorem zz_lt (n : Int) (hn : -9223372036854775808 ≤ n ∧ n ≤ 9223372036854775807) : zz n < 18446744073709551616 := by unfold zz; split <;> omega
set_option maxRecDepth 100000 in
set_option maxHeartbeats 1000000 in
theorem bint_any (n : Int) (hn : -9223372036854775808 ≤ n ∧ n ≤ 9223372036854775807) (w : World) : Calls Tryz.prog 216 #[.int .i64 n] w (BytesP w (uintL (zz n))) := by
  have HU := Lib.hid (uint_any (zz n) (zz_lt n hn) w)
  have hz := zz_bits n hn
  generalize zz n = z at *
  go_enter Tryz.func216, Tryz.ntmps216
  go_wp2_with fail
  refine HU.out.mono ?_
  rintro e w2 ⟨a, c, rfl, hr, hb⟩
  go_wp2
  go_ret
  exact ⟨a, c, rfl, hr, hb⟩
set_option maxRecDepth 100000 in
set_option maxHeartbeats 1000000 in
theorem btext_any (s : ByteArray) (hs : s.size ≤ 1000000) (w : World) : Calls Tryz.prog 223 #[.string s] w (BytesP w (uintL s.size ++ s.data.toList)) := by
  have HU := Lib.hid (uint_any s.size (by omega) w)
  have hU10 := uintL_ten (x := s.size) (by omega)
  have hUp := uintL_pos s.size
  have hl : (uintL s.size ++ s.data.toList).length = (uintL s.size).length + s.size := by rw [List.length_append, bsize]
  have hsc : ((s.size : Nat) : Int) % 18446744073709551616 = (s.size : Int) := by omega
  have HLL := Lib.hid hl
  have HBA := Lib.hid (byts_append (uintL s.size) s.data.toList)
  unfold BytesP
  rw [hl, HBA.out]
  clear hl
  generalize uintL s.size = U at *
  go_enter Tryz.func223, Tryz.ntmps223
  go_wp2_with fail
  refine HU.out.mono ?_
  rintro e w2 ⟨a, c, rfl, hr, hb⟩
  go_wp2_with (refine wpList_row_str elemU8 Tryz.underlying9 rfl rfl (S := fun k => w.heap.size ≤ k) (v := .slice a U.length c) (n := U.length) (xs := byts U) rfl hr (by omega) rfl (by unfold maxLen; omega) (by omega) ?_
               intro v5 w5 hr5 hch5
               obtain ⟨a5, c5, rfl⟩ : ∃ a5 c5, v5 = .slice a5 (U.length + s.size) c5 := (by obtain ⟨-, a5, c5, h, -⟩ := hr5.reads; exact ⟨a5, c5, h⟩)
               have HR5 := Lib.hid hr5
               have HCH5 := Lib.hid hch5
               clear hr5 hch5)
  go_ret
  have hb' := hb.size
  exact ⟨a5, c5, rfl, HR5.out.mono (fun k hk => by rcases hk with hk | hk; exact hk; omega), hb.trans (HCH5.out.toBelow (B := w.heap.size) hb.size (fun n hn h => by omega))⟩
set_option maxRecDepth 100000 in
set_option maxHeartbeats 1000000 in
theorem none_bytes (v : VV) (w : World) : Calls Tryz.prog 210 #[.agg #[], v.val] w (BytesP w []) := by
  obtain ⟨k, n, f, s, a, l, c⟩ := v
  dsimp only [VV.val]
  go_enter Tryz.func210, Tryz.ntmps210
  go_wp2
  go_ret
  exact ⟨none, 0, rfl, Row.nil _ _ _ _, ((Below.refl _ _).alloc (Nat.le_refl _) _).alloc (by simp) _⟩
set_option maxRecDepth 100000 in
set_option maxHeartbeats 1000000 in
theorem int_bytes (v : VV) (hn : -9223372036854775808 ≤ v.n ∧ v.n ≤ 9223372036854775807) (w : World) : Calls Tryz.prog 213 #[.agg #[], v.val] w (BytesP w (uintL (zz v.n))) := by
  obtain ⟨k, n, f, s, a, l, c⟩ := v
  dsimp only [VV.val] at *
  have HB1 : Hid (Below w.heap.size w ((w.alloc (.cells #[] 104)).alloc (.cells #[.int .i64 k, .int .i64 n, .float .f64 f, .string s, .slice a l c] 26))) := ((Below.refl _ _).alloc (Nat.le_refl _) _).alloc (by simp) _
  have HU := Lib.hid (bint_any n hn ((w.alloc (.cells #[] 104)).alloc (.cells #[.int .i64 k, .int .i64 n, .float .f64 f, .string s, .slice a l c] 26)))
  go_enter Tryz.func213, Tryz.ntmps213
  go_wp2_with fail
  refine HU.out.mono ?_
  rintro e w2 h2
  obtain ⟨a2, c2, rfl, hr, hb⟩ := h2.mono HB1.out
  go_wp2
  go_ret
  exact ⟨a2, c2, rfl, hr, hb⟩
set_option maxRecDepth 100000 in
set_option maxHeartbeats 1000000 in
theorem text_bytes (v : VV) (hs : v.s.size ≤ 1000000) (w : World) : Calls Tryz.prog 220 #[.agg #[], v.val] w (BytesP w (uintL v.s.size ++ v.s.data.toList)) := by
  obtain ⟨k, n, f, s, a, l, c⟩ := v
  dsimp only [VV.val] at *
  have HB1 : Hid (Below w.heap.size w ((w.alloc (.cells #[] 106)).alloc (.cells #[.int .i64 k, .int .i64 n, .float .f64 f, .string s, .slice a l c] 26))) := ((Below.refl _ _).alloc (Nat.le_refl _) _).alloc (by simp) _
  have HU := Lib.hid (btext_any s hs ((w.alloc (.cells #[] 106)).alloc (.cells #[.int .i64 k, .int .i64 n, .float .f64 f, .string s, .slice a l c] 26)))
  generalize uintL s.size ++ s.data.toList = U at *
  go_enter Tryz.func220, Tryz.ntmps220
  go_wp2_with fail
  refine HU.out.mono ?_
  rintro e w2 h2
  obtain ⟨a2, c2, rfl, hr, hb⟩ := h2.mono HB1.out
  go_wp2
  go_ret
  exact ⟨a2, c2, rfl, hr, hb⟩
/-- The first m of the eight bytes of a number, the greatest first. -/
def beN (b m : Nat) : List UInt8 := (List.range m).map fun i => UInt8.ofNat (b / 2 ^ (56 - 8 * i) % 256)
theorem beN_succ (b m : Nat) : beN b (m + 1) = beN b m ++ [UInt8.ofNat (b / 2 ^ (56 - 8 * m) % 256)] := by
  unfold beN; rw [List.range_succ, List.map_append]; rfl
theorem beN_length (b m : Nat) : (beN b m).length = m := by unfold beN; simp
set_option maxRecDepth 100000 in
set_option maxHeartbeats 4000000 in
theorem float_bytes (v : VV) (hf : v.f < 18446744073709551616) (w : World) : Calls Tryz.prog 217 #[.agg #[], v.val] w (BytesP w (beN (canonB v.f) 8)) := by
  obtain ⟨k, n, f, s, a0, l, c0⟩ := v
  dsimp only [VV.val] at *
  have HV1 : Hid (((w.alloc (.cells #[] 105)).alloc (.cells #[.int .i64 k, .int .i64 n, .float .f64 f, .string s, .slice a0 l c0] 26)).heap[w.heap.size + 1]? = some (.cells #[.int .i64 k, .int .i64 n, .float .f64 f, .string s, .slice a0 l c0] 26 (0, 0))) := by
    have h := heap_alloc_new (w.alloc (.cells #[] 105)) (.cells #[.int .i64 k, .int .i64 n, .float .f64 f, .string s, .slice a0 l c0] 26)
    rw [World.size_alloc] at h
    exact h
  have HB1 : Hid (Below w.heap.size w ((w.alloc (.cells #[] 105)).alloc (.cells #[.int .i64 k, .int .i64 n, .float .f64 f, .string s, .slice a0 l c0] 26))) := ((Below.refl _ _).alloc (Nat.le_refl _) _).alloc (by simp) _
  have HS1 : Hid (((w.alloc (.cells #[] 105)).alloc (.cells #[.int .i64 k, .int .i64 n, .float .f64 f, .string s, .slice a0 l c0] 26)).heap.size = w.heap.size + 2) := by simp [Hid]
  have HNB := Lib.hid (nbits_any f hf)
  generalize canonB f = cb at *
  go_enter Tryz.func217, Tryz.ntmps217
  go_upto_region 3 with fail
  generalize ((w.alloc (.cells #[] 105)).alloc (.cells #[.int .i64 k, .int .i64 n, .float .f64 f, .string s, .slice a0 l c0] 26)) = wd at *
  go_loopw [5, 6] (fun o i w' => ∃ (m : Nat) (a : Option Addr) (c : Nat), m ≤ 8 ∧ i = .int .i64 (56 - 8 * (m : Int)) ∧ o = .slice a m c ∧ Hid (Row w' 5 1 (.slice a m c) m (byts (beN cb m)) (fun b => w.heap.size + 2 ≤ b)) ∧ Hid (w'.heap[w.heap.size + 1]? = some (.cells #[.int .i64 k, .int .i64 n, .float .f64 f, .string s, .slice a0 l c0] 26 (0, 0))) ∧ Hid (Below w.heap.size w w') ∧ Hid (w.heap.size + 2 ≤ w'.heap.size)) (fun _ i _ => (RowKit.intOf i + 8).toNat)
  case atStart => exact ⟨0, none, 0, by omega, rfl, rfl, Row.nil _ _ _ _, HV1.out, HB1.out, Nat.le_of_eq HS1.out.symm⟩
  case round =>
    obtain ⟨m, a, c, hm, rfl, rfl, HR, HV, HBE, HSZ⟩ := hrel
    by_cases hlt : m < 8
    · have hx2 := cellAt HV.out 2 rfl
      have hge : decide (8 * (m : Int) ≤ 56) = true := by simp; omega
      have hsh : ¬ (56 - 8 * (m : Int)) < 0 := by omega
      go_wp2_with fail
      refine (HNB.out _).mono ?_
      rintro e w3 ⟨rfl, rfl⟩
      have hval : ((cb : Int) / 2 ^ (56 - 8 * m) % 256) = (((UInt8.ofNat (cb / 2 ^ (56 - 8 * m) % 256)).toNat : Nat) : Int) := by
        rw [UInt8.toNat_ofNat', Nat.mod_mod]
        rfl
      have HVAL := Lib.hid hval
      clear hval
      go_wp2_with (refine wpList_row elemU8 rfl rfl (S := fun b => w.heap.size + 2 ≤ b) (v := .slice a m c) (n := m) (xs := byts (beN cb m)) rfl (HR.out.frame (fun k _ hk => Below.heap_alloc _ _ _ hk)) (y := .slice (some ⟨wr.heap.size, 0, none⟩) 1 1) (m := 1) (news := [.int .u8 ((cb : Int) / 2 ^ (56 - 8 * m) % 256)]) rfl (reads_one wr _ _) (one_of rfl) (by unfold maxLen; omega) (by omega) ?_
                   intro v5 w5 hr5 hch5
                   obtain ⟨a5, c5, rfl⟩ : ∃ a5 c5, v5 = .slice a5 (m + 1) c5 := (by obtain ⟨-, a5, c5, h, -⟩ := hr5.reads; exact ⟨a5, c5, h⟩)
                   have HR5 := Lib.hid hr5
                   have HCH5 := Lib.hid hch5
                   have HV5 := Lib.hid (hch5.heap ((Below.heap_alloc _ _ _ (lt_of_heap HV.out)).trans HV.out) (by omega))
                   clear hr5 hch5)
      go_roundw
      case rel =>
        refine ⟨m + 1, a5, c5, by omega, ?_, rfl, ?_, HV5.out, ?_, ?_⟩
        · congr 1; omega
        · have e : byts (beN cb (m + 1)) = byts (beN cb m) ++ [.int .u8 ((cb : Int) / 2 ^ (56 - 8 * m) % 256)] := by
            rw [beN_succ, byts_append, HVAL.out]; rfl
          rw [Hid, e]
          exact HR5.out.mono (fun k hk => by rcases hk with hk | hk; exact hk; have h1 := HSZ.out; simp only [World.size_alloc] at hk; omega)
        · have h4 := HBE.out.size
          exact (HBE.out.alloc (by omega) _).trans (HCH5.out.toBelow (B := w.heap.size) (by simp only [World.size_alloc]; omega) (fun n hn h => by omega))
        · have h1 := HSZ.out
          have h5 := HCH5.out.size
          rw [Hid]
          simp only [World.size_alloc] at h5
          omega
      case measure => simp [RowKit.intOf]; omega
    · have hge : decide (8 * (m : Int) ≤ 56) = false := by simp; omega
      obtain rfl : m = 8 := by omega
      go_wp2_with fail
      go_ret
      have hl : (beN cb 8).length = 8 := beN_length _ _
      unfold BytesP
      rw [hl]
      exact ⟨a, c, rfl, HR.out.mono (fun k hk => by omega), HBE.out⟩
end Go.Proofs.YtpijpeocdlnhiaaGreatDoor
namespace Go.Proofs.YtpijpeocdlnhiaaGreatDoor
set_option linter.unusedVariables false
set_option linter.unusedSimpArgs false
open Go.RowKit

def atomF (k n : Int) (f : Nat) (s : ByteArray) : List UInt8 :=
  if k = 1 then uintL (zz n) else if k = 2 then beN (canonB f) 8 else if k = 3 then uintL s.size ++ s.data.toList else []
mutual
/-- The bytes of a payload. -/
def formT : VT → List UInt8
  | .node k n f s l => uintL k.toNat ++ (if k = 4 then uintL l.length ++ formsT l else atomF k n f s)
def formsT : List VT → List UInt8
  | [] => []
  | t :: ts => formT t ++ formsT ts
end
theorem formsT_append (a b : List VT) : formsT (a ++ b) = formsT a ++ formsT b := by
  induction a with
  | nil => rw [List.nil_append, formsT, List.nil_append]
  | cons t a ih => rw [List.cons_append, formsT, formsT, ih, List.append_assoc]
theorem formsT_take (l : List VT) (m : Nat) (h : m < l.length) : formsT (l.take (m + 1)) = formsT (l.take m) ++ formT l[m] := by
  rw [List.take_succ_eq_append_getElem h, formsT_append, formsT, formsT, List.append_nil]
theorem formsT_le (l : List VT) (m : Nat) : (formsT (l.take m)).length ≤ (formsT l).length := by
  have h : formsT l = formsT (l.take m) ++ formsT (l.drop m) := by rw [← formsT_append, List.take_append_drop]
  rw [h, List.length_append]
  omega
def FormC (t : VT) : Prop := ∀ (v : VV) (S : Nat → Prop) (w : World), TRead w S t v → Calls Tryz.prog 43 #[v.val] w (BytesP w (formT t))
set_option maxRecDepth 100000 in
set_option maxHeartbeats 4000000 in
theorem list_bytes (n : Int) (f : Nat) (s : ByteArray) (l : List VT) (hl : l.length ≤ 1000000) (htl : (uintL l.length ++ formsT l).length ≤ 1000000) (IH : ∀ t ∈ l, FormC t) (v : VV) (S : Nat → Prop) (w : World) (hv : TRead w S (.node 4 n f s l) v) :
    Calls Tryz.prog 224 #[.agg #[], v.val] w (BytesP w (uintL l.length ++ formsT l)) := by
  have HV := Lib.hid hv
  have hval : v.val = .agg #[.int .i64 4, .int .i64 n, .float .f64 f, .string s, .slice v.a l.length v.c] := hv.val
  have hlen : l.length ≤ v.c := by obtain ⟨vs, hr, _⟩ := hv.elems; obtain ⟨_, _, _, he, hle, _⟩ := hr; cases he; exact hle
  rw [hval]
  have HI := Lib.hid IH
  clear hv hval IH
  obtain ⟨va, hva⟩ : ∃ va, va = v.a := ⟨_, rfl⟩
  have HVA := Lib.hid hva
  rw [← hva]
  clear hva
  have HV1 : Hid (((w.alloc (.cells #[] 107)).alloc (.cells #[.int .i64 4, .int .i64 n, .float .f64 f, .string s, .slice va l.length v.c] 26)).heap[w.heap.size + 1]? = some (.cells #[.int .i64 4, .int .i64 n, .float .f64 f, .string s, .slice va l.length v.c] 26 (0, 0))) := by
    have h := heap_alloc_new (w.alloc (.cells #[] 107)) (.cells #[.int .i64 4, .int .i64 n, .float .f64 f, .string s, .slice va l.length v.c] 26)
    rw [World.size_alloc] at h
    exact h
  have HB1 : Hid (Below w.heap.size w ((w.alloc (.cells #[] 107)).alloc (.cells #[.int .i64 4, .int .i64 n, .float .f64 f, .string s, .slice va l.length v.c] 26))) := ((Below.refl _ _).alloc (Nat.le_refl _) _).alloc (by simp) _
  have HS1 : Hid (((w.alloc (.cells #[] 107)).alloc (.cells #[.int .i64 4, .int .i64 n, .float .f64 f, .string s, .slice va l.length v.c] 26)).heap.size = w.heap.size + 2) := by simp [Hid]
  have HU := Lib.hid (uint_any l.length (by omega))
  have HTL : Hid (∀ m, (uintL l.length ++ formsT (l.take m)).length ≤ 1000000) := fun m => by
    have := formsT_le l m
    rw [List.length_append] at htl ⊢
    omega
  clear htl
  obtain ⟨R, hR⟩ : ∃ R, R = uintL l.length ++ formsT l := ⟨_, rfl⟩
  rw [← hR]
  have HRR := Lib.hid hR
  clear hR
  go_enter Tryz.func224, Tryz.ntmps224
  go_upto_region 1 with fail
  generalize ((w.alloc (.cells #[] 107)).alloc (.cells #[.int .i64 4, .int .i64 n, .float .f64 f, .string s, .slice va l.length v.c] 26)) = wd at *
  obtain ⟨hx0, hx1, hx2, hx3, hx4⟩ := cells5 HV1.out
  go_wp2_with fail
  refine (HU.out wd).mono ?_
  rintro e w2 ⟨a, c, rfl, hr, hb⟩
  have HR2 : Hid (Row w2 5 1 (.slice a (uintL l.length).length c) (uintL l.length).length (byts (uintL l.length)) (fun k => w.heap.size + 2 ≤ k)) := hr.mono (fun k hk => by have := HS1.out; omega)
  have HB2 : Hid (Below w.heap.size w w2) := HB1.out.trans (hb.mono HB1.out.size)
  have HV2 := Lib.hid ((hb.block _ (lt_of_heap HV1.out)).trans HV1.out)
  have HS2 : Hid (w.heap.size + 2 ≤ w2.heap.size) := by have h1 := HS1.out; have h2 := hb.size; rw [Hid]; omega
  clear hr hb hx0 hx1 hx2 hx3 hx4
  obtain ⟨hx0, hx1, hx2, hx3, hx4⟩ := cells5 HV2.out
  go_wp2_with fail
  clear hx0 hx1 hx2 hx3 hx4
  obtain ⟨U, hU⟩ : ∃ U, U = uintL l.length := ⟨_, rfl⟩
  rw [← hU] at HR2 HTL HRR ⊢
  clear hU HU
  go_loopw [5, 16] (fun o i w' => ∃ (m : Nat) (acc : List UInt8) (a : Option Addr) (c : Nat), m ≤ l.length ∧ i = .int .i64 m ∧ o = .slice a acc.length c ∧ Hid (acc = U ++ formsT (l.take m)) ∧ Hid (Row w' 5 1 (.slice a acc.length c) acc.length (byts acc) (fun b => w.heap.size + 2 ≤ b)) ∧ Hid (Below w.heap.size w w') ∧ Hid (w.heap.size + 2 ≤ w'.heap.size)) (fun _ i _ => l.length - (RowKit.intOf i).toNat)
  case atStart => exact ⟨0, U, a, c, by omega, rfl, rfl, by rw [Hid, List.take_zero, formsT, List.append_nil], HR2.out, HB2.out, HS2.out⟩
  case round =>
    obtain ⟨m, acc, a, c, hm, rfl, rfl, HA, HR, HBE, HSZ⟩ := hrel
    by_cases hlt : m < l.length
    · obtain ⟨b, o, hb0, hcap, hblt, -, p, hp, hc0, hc1, hc2, hc3, hc4⟩ := (HV.out.later HBE.out).child m hlt
      obtain rfl : va = some ⟨b, o, none⟩ := HVA.out.trans hb0
      clear hb0
      have hin := List.getElem_mem hlt
      have HC : Hid (∀ W, Below wr.heap.size wr W → Calls Tryz.prog 43 #[p.val] W (BytesP W (formT l[m]))) :=
        fun W hW => HI.out l[m] hin p S W (hp.later hW)
      have HA2 : Hid (acc ++ formT l[m] = U ++ formsT (l.take (m + 1))) := by rw [Hid, HA.out, formsT_take l m hlt, List.append_assoc]
      have hle : acc.length + (formT l[m]).length ≤ 1000000 := by
        have h := HTL.out (m + 1)
        rw [← HA2.out, List.length_append] at h
        exact h
      generalize formT l[m] = tx at *
      clear hp hin HA
      obtain ⟨pk, pn, pf, ps, pa, pl, pc⟩ := p
      dsimp only [VV.val] at *
      go_upto_region 5 with fail
      have HXx : Hid ((wr.alloc (.cells #[.int .i64 pk, .int .i64 pn, .float .f64 pf, .string ps, .slice pa pl pc] 26)).heap[wr.heap.size]? = some (.cells #[.int .i64 pk, .int .i64 pn, .float .f64 pf, .string ps, .slice pa pl pc] 26 (0, 0))) := heap_alloc_new wr _
      have HBx : Hid (Below wr.heap.size wr (wr.alloc (.cells #[.int .i64 pk, .int .i64 pn, .float .f64 pf, .string ps, .slice pa pl pc] 26))) := (Below.refl _ _).alloc (Nat.le_refl _) _
      clear hc0 hc1 hc2 hc3 hc4
      have HRx := Lib.hid (HR.out.frame (fun k hk hl => HBx.out.block k hl))
      have HCx := Lib.hid (HC.out _ HBx.out)
      generalize (wr.alloc (.cells #[.int .i64 pk, .int .i64 pn, .float .f64 pf, .string ps, .slice pa pl pc] 26)) = wx at *
      obtain ⟨hx0, hx1, hx2, hx3, hx4⟩ := cells5 HXx.out
      go_wp2_with fail
      refine HCx.out.mono ?_
      rintro e w4 ⟨a2, c2, rfl, hr2, hb4⟩
      have HB4 := Lib.hid (HBx.out.trans (hb4.mono HBx.out.size))
      have HR4 := Lib.hid (HRx.out.frame (fun k hk hl => hb4.block k hl))
      have HY4 := Lib.hid hr2.reads
      clear hb4 hr2 hx0 hx1 hx2 hx3 hx4
      go_wp2_with (refine wpList_row elemU8 rfl rfl (S := fun b => w.heap.size + 2 ≤ b) (v := .slice a acc.length c) (n := acc.length) (xs := byts acc) rfl HR4.out (y := .slice a2 tx.length c2) (m := tx.length) (news := byts tx) rfl HY4.out (byts_one tx) (by unfold maxLen; omega) (by omega) ?_
                   intro v5 w5 hr5 hch5
                   obtain ⟨a5, c5, rfl⟩ : ∃ a5 c5, v5 = .slice a5 (acc.length + tx.length) c5 := (by obtain ⟨-, a5, c5, h, -⟩ := hr5.reads; exact ⟨a5, c5, h⟩)
                   have HR5 := Lib.hid hr5
                   have HCH5 := Lib.hid hch5
                   clear hr5 hch5)
      go_roundw
      case rel =>
        have hln : (acc ++ tx).length = acc.length + tx.length := List.length_append
        have h4 := HB4.out.size
        have h5 := HSZ.out
        have h6 := HBE.out.size
        refine ⟨m + 1, acc ++ tx, a5, c5, by omega, by go_num, by rw [hln], HA2.out, ?_, ?_, ?_⟩
        · rw [Hid, hln, byts_append]
          exact HR5.out.mono (fun k hk => by rcases hk with hk | hk; exact hk; omega)
        · exact (HBE.out.trans (HB4.out.mono HBE.out.size)).trans (HCH5.out.toBelow (B := w.heap.size) (by omega) (fun n hn h => by omega))
        · have h7 := HCH5.out.size
          rw [Hid]
          omega
      case measure => simp [RowKit.intOf]; omega
    · obtain rfl : m = l.length := by omega
      rw [List.take_length] at HA
      obtain rfl : acc = R := HA.out.trans HRR.out.symm
      go_wp2_with fail
      go_ret
      exact ⟨a, c, rfl, HR.out.mono (fun k hk => by omega), HBE.out⟩
end Go.Proofs.YtpijpeocdlnhiaaGreatDoor
namespace Go.Proofs.YtpijpeocdlnhiaaGreatDoor
set_option linter.unusedVariables false
set_option linter.unusedSimpArgs false
open Go.RowKit

theorem row_step {wx X Y : World} {v : Value} {n : Nat} {xs : List Value} {e : TypeId} {size : Nat} (h : Hid (Below wx.heap.size wx X)) (hr : Row Y e size v n xs (fun k => X.heap.size ≤ k)) : Hid (Row Y e size v n xs (fun k => wx.heap.size ≤ k)) :=
  hr.mono (fun k hk => Nat.le_trans h.out.size hk)
theorem chg_step {wx X Y : World} (h : Hid (Below wx.heap.size wx X)) (hc : Chg (fun k => wx.heap.size ≤ k) X Y) : Hid (Below wx.heap.size wx Y) :=
  h.out.trans (hc.toBelow (B := wx.heap.size) h.out.size (fun n hn hs => by omega))
theorem row_after {wx X Y : World} {v : Value} {n : Nat} {xs : List Value} {e : TypeId} {size : Nat} (h : Hid (Below wx.heap.size wx X)) (hr : Row Y e size v n xs (fun k => wx.heap.size ≤ k ∨ X.heap.size ≤ k)) : Hid (Row Y e size v n xs (fun k => wx.heap.size ≤ k)) :=
  hr.mono (fun k hk => by have := h.out.size; rcases hk with hk | hk; exact hk; omega)

theorem kb_0 (W : World) : (method 342 103 (.agg #[]) "clockwork/value.bytes").run Tryz.prog W = .ok (210, .agg #[]) W := by kernel_rfl
theorem kw_0 : kindV 0 = .iface 103 (.agg #[]) := rfl
theorem kb_1 (W : World) : (method 342 104 (.agg #[]) "clockwork/value.bytes").run Tryz.prog W = .ok (213, .agg #[]) W := by kernel_rfl
theorem kw_1 : kindV 1 = .iface 104 (.agg #[]) := rfl
theorem kb_2 (W : World) : (method 342 105 (.agg #[]) "clockwork/value.bytes").run Tryz.prog W = .ok (217, .agg #[]) W := by kernel_rfl
theorem kw_2 : kindV 2 = .iface 105 (.agg #[]) := rfl
theorem kb_3 (W : World) : (method 342 106 (.agg #[]) "clockwork/value.bytes").run Tryz.prog W = .ok (220, .agg #[]) W := by kernel_rfl
theorem kw_3 : kindV 3 = .iface 106 (.agg #[]) := rfl
theorem kb_4 (W : World) : (method 342 107 (.agg #[]) "clockwork/value.bytes").run Tryz.prog W = .ok (224, .agg #[]) W := by kernel_rfl
theorem kw_4 : kindV 4 = .iface 107 (.agg #[]) := rfl
set_option maxRecDepth 100000 in
set_option maxHeartbeats 4000000 in
theorem form_0 (n : Int) (f : Nat) (s : ByteArray) (a : Option Addr) (l c : Nat) (w : World) (B : List UInt8) (hB : B.length ≤ 1000000)
    (hC : ∀ W, Below w.heap.size w W → Calls Tryz.prog 210 #[.agg #[], .agg #[.int .i64 0, .int .i64 n, .float .f64 f, .string s, .slice a l c]] W (BytesP W B)) :
    Calls Tryz.prog 43 #[.agg #[.int .i64 0, .int .i64 n, .float .f64 f, .string s, .slice a l c]] w (BytesP w (uintL 0 ++ B)) := by
  have HU : Hid (∀ W, Calls Tryz.prog 72 #[.int .u64 0] W (BytesP W (uintL 0))) := fun W => uint_any 0 (by decide) W
  have hU10 := uintL_ten (x := 0) (by decide)
  have HBA := Lib.hid (byts_append (uintL 0) B)
  have hl : (uintL 0 ++ B).length = (uintL 0).length + B.length := List.length_append
  unfold BytesP
  rw [hl, HBA.out]
  clear hl HBA
  generalize uintL 0 = U at *
  have HC := Lib.hid hC
  clear hC
  have HXx : Hid ((w.alloc (.cells #[.int .i64 0, .int .i64 n, .float .f64 f, .string s, .slice a l c] 26)).heap[w.heap.size]? = some (.cells #[.int .i64 0, .int .i64 n, .float .f64 f, .string s, .slice a l c] 26 (0, 0))) := heap_alloc_new w _
  have HBx : Hid (Below w.heap.size w (w.alloc (.cells #[.int .i64 0, .int .i64 n, .float .f64 f, .string s, .slice a l c] 26))) := (Below.refl _ _).alloc (Nat.le_refl _) _
  have HK := Lib.hid kw_0
  have hmeth := kb_0
  go_enter Tryz.func43, Tryz.ntmps43
  go_upto_region 1 with fail
  generalize (w.alloc (.cells #[.int .i64 0, .int .i64 n, .float .f64 f, .string s, .slice a l c] 26)) = wx at *
  have HKS : Hid (∀ w', Hid (Below wx.heap.size wx w') → (w'.cell? ⟨w.heap.size, 0, none⟩ = some (.int .i64 0) ∧ w'.cell? ⟨w.heap.size, 1, none⟩ = some (.int .i64 n) ∧ w'.cell? ⟨w.heap.size, 2, none⟩ = some (.float .f64 f) ∧ w'.cell? ⟨w.heap.size, 3, none⟩ = some (.string s) ∧ w'.cell? ⟨w.heap.size, 4, none⟩ = some (.slice a l c))) := fun w' hb =>
    cells5 ((hb.out.block _ (lt_of_heap HXx.out)).trans HXx.out)
  have HB0 : Hid (Below wx.heap.size wx wx.drew) := (Below.refl _ _).drew
  have HB00 : Hid (Below wx.heap.size wx wx) := Below.refl _ _
  have HCC : Hid (∀ W, Hid (Below wx.heap.size wx W) → Calls Tryz.prog 210 #[.agg #[], .agg #[.int .i64 0, .int .i64 n, .float .f64 f, .string s, .slice a l c]] W (BytesP W B)) := fun W hW => HC.out W (HBx.out.trans (hW.out.mono HBx.out.size))
  clear HC
  go_region_held3 (fun w' => w'.cell? ⟨w.heap.size, 0, none⟩ = some (.int .i64 0) ∧ w'.cell? ⟨w.heap.size, 1, none⟩ = some (.int .i64 n) ∧ w'.cell? ⟨w.heap.size, 2, none⟩ = some (.float .f64 f) ∧ w'.cell? ⟨w.heap.size, 3, none⟩ = some (.string s) ∧ w'.cell? ⟨w.heap.size, 4, none⟩ = some (.slice a l c)) (exact HKS.out _ (by assumption))
    (first
    | (go_at_call 72; refine (HU.out _).mono ?_; rintro e wu ⟨ua, uc, rfl, hur, hub⟩
       have HRu := row_step (wx := wx) (by assumption) hur
       have HBu := bel_stepT (w0 := wx) (by assumption) hub
       have HUB := Lib.hid hub
       clear hub hur)
    | (go_at_call 39; refine (of_any 0 _).mono ?_; rintro e w3 ⟨rfl, rfl⟩; rw [HK.out])
    | (go_at_call 210; refine (HCC.out _ (by assumption)).mono ?_; rintro e wb ⟨ba, bc, rfl, hbr, hbb⟩
       have HRb := row_step (wx := wx) (by assumption) hbr
       have HBb := bel_stepT (w0 := wx) (by assumption) hbb
       have HBB := Lib.hid hbb
       clear hbb hbr)
    | (first
         | refine step_row elemU8 rfl rfl (S := fun k => wx.heap.size ≤ k) (v := .slice ua U.length uc) (n := U.length) (xs := byts U) rfl (HRu.out.frame (fun k _ hk => HBB.out.block k hk)) (y := .slice ba B.length bc) (m := B.length) (news := byts B) rfl HRb.out.reads (byts_one B) (by unfold maxLen; omega) (by omega) ?_
         | refine step_row elemU8 rfl rfl (S := fun k => wx.heap.size ≤ k) (v := .slice ua U.length uc) (n := U.length) (xs := byts U) rfl HRu.out (y := .slice ba B.length bc) (m := B.length) (news := byts B) rfl (HRb.out.frame (fun k _ hk => HUB.out.block k hk)).reads (byts_one B) (by unfold maxLen; omega) (by omega) ?_
       intro v5 w5 hr5 hch5
       obtain ⟨a5, c5, rfl⟩ : ∃ a5 c5, v5 = .slice a5 (U.length + B.length) c5 := (by obtain ⟨-, a5, c5, h, -⟩ := hr5.reads; exact ⟨a5, c5, h⟩)
       have HB5 : Hid (Below wx.heap.size wx w5) := chg_step (by assumption) hch5
       have HR5 := row_after (wx := wx) (by assumption) hr5
       clear hr5 hch5)
    | fail)
  all_goals
    have hs5 := HB5.out.size
    have hsx := HBx.out.size
    go_wp2_with fail
    go_ret
    exact ⟨a5, c5, rfl, HR5.out.mono (fun k hk => Nat.le_trans hsx hk), HBx.out.trans (HB5.out.mono hsx)⟩
set_option maxRecDepth 100000 in
set_option maxHeartbeats 4000000 in
theorem form_1 (n : Int) (f : Nat) (s : ByteArray) (a : Option Addr) (l c : Nat) (w : World) (B : List UInt8) (hB : B.length ≤ 1000000)
    (hC : ∀ W, Below w.heap.size w W → Calls Tryz.prog 213 #[.agg #[], .agg #[.int .i64 1, .int .i64 n, .float .f64 f, .string s, .slice a l c]] W (BytesP W B)) :
    Calls Tryz.prog 43 #[.agg #[.int .i64 1, .int .i64 n, .float .f64 f, .string s, .slice a l c]] w (BytesP w (uintL 1 ++ B)) := by
  have HU : Hid (∀ W, Calls Tryz.prog 72 #[.int .u64 1] W (BytesP W (uintL 1))) := fun W => uint_any 1 (by decide) W
  have hU10 := uintL_ten (x := 1) (by decide)
  have HBA := Lib.hid (byts_append (uintL 1) B)
  have hl : (uintL 1 ++ B).length = (uintL 1).length + B.length := List.length_append
  unfold BytesP
  rw [hl, HBA.out]
  clear hl HBA
  generalize uintL 1 = U at *
  have HC := Lib.hid hC
  clear hC
  have HXx : Hid ((w.alloc (.cells #[.int .i64 1, .int .i64 n, .float .f64 f, .string s, .slice a l c] 26)).heap[w.heap.size]? = some (.cells #[.int .i64 1, .int .i64 n, .float .f64 f, .string s, .slice a l c] 26 (0, 0))) := heap_alloc_new w _
  have HBx : Hid (Below w.heap.size w (w.alloc (.cells #[.int .i64 1, .int .i64 n, .float .f64 f, .string s, .slice a l c] 26))) := (Below.refl _ _).alloc (Nat.le_refl _) _
  have HK := Lib.hid kw_1
  have hmeth := kb_1
  go_enter Tryz.func43, Tryz.ntmps43
  go_upto_region 1 with fail
  generalize (w.alloc (.cells #[.int .i64 1, .int .i64 n, .float .f64 f, .string s, .slice a l c] 26)) = wx at *
  have HKS : Hid (∀ w', Hid (Below wx.heap.size wx w') → (w'.cell? ⟨w.heap.size, 0, none⟩ = some (.int .i64 1) ∧ w'.cell? ⟨w.heap.size, 1, none⟩ = some (.int .i64 n) ∧ w'.cell? ⟨w.heap.size, 2, none⟩ = some (.float .f64 f) ∧ w'.cell? ⟨w.heap.size, 3, none⟩ = some (.string s) ∧ w'.cell? ⟨w.heap.size, 4, none⟩ = some (.slice a l c))) := fun w' hb =>
    cells5 ((hb.out.block _ (lt_of_heap HXx.out)).trans HXx.out)
  have HB0 : Hid (Below wx.heap.size wx wx.drew) := (Below.refl _ _).drew
  have HB00 : Hid (Below wx.heap.size wx wx) := Below.refl _ _
  have HCC : Hid (∀ W, Hid (Below wx.heap.size wx W) → Calls Tryz.prog 213 #[.agg #[], .agg #[.int .i64 1, .int .i64 n, .float .f64 f, .string s, .slice a l c]] W (BytesP W B)) := fun W hW => HC.out W (HBx.out.trans (hW.out.mono HBx.out.size))
  clear HC
  go_region_held3 (fun w' => w'.cell? ⟨w.heap.size, 0, none⟩ = some (.int .i64 1) ∧ w'.cell? ⟨w.heap.size, 1, none⟩ = some (.int .i64 n) ∧ w'.cell? ⟨w.heap.size, 2, none⟩ = some (.float .f64 f) ∧ w'.cell? ⟨w.heap.size, 3, none⟩ = some (.string s) ∧ w'.cell? ⟨w.heap.size, 4, none⟩ = some (.slice a l c)) (exact HKS.out _ (by assumption))
    (first
    | (go_at_call 72; refine (HU.out _).mono ?_; rintro e wu ⟨ua, uc, rfl, hur, hub⟩
       have HRu := row_step (wx := wx) (by assumption) hur
       have HBu := bel_stepT (w0 := wx) (by assumption) hub
       have HUB := Lib.hid hub
       clear hub hur)
    | (go_at_call 39; refine (of_any 1 _).mono ?_; rintro e w3 ⟨rfl, rfl⟩; rw [HK.out])
    | (go_at_call 213; refine (HCC.out _ (by assumption)).mono ?_; rintro e wb ⟨ba, bc, rfl, hbr, hbb⟩
       have HRb := row_step (wx := wx) (by assumption) hbr
       have HBb := bel_stepT (w0 := wx) (by assumption) hbb
       have HBB := Lib.hid hbb
       clear hbb hbr)
    | (first
         | refine step_row elemU8 rfl rfl (S := fun k => wx.heap.size ≤ k) (v := .slice ua U.length uc) (n := U.length) (xs := byts U) rfl (HRu.out.frame (fun k _ hk => HBB.out.block k hk)) (y := .slice ba B.length bc) (m := B.length) (news := byts B) rfl HRb.out.reads (byts_one B) (by unfold maxLen; omega) (by omega) ?_
         | refine step_row elemU8 rfl rfl (S := fun k => wx.heap.size ≤ k) (v := .slice ua U.length uc) (n := U.length) (xs := byts U) rfl HRu.out (y := .slice ba B.length bc) (m := B.length) (news := byts B) rfl (HRb.out.frame (fun k _ hk => HUB.out.block k hk)).reads (byts_one B) (by unfold maxLen; omega) (by omega) ?_
       intro v5 w5 hr5 hch5
       obtain ⟨a5, c5, rfl⟩ : ∃ a5 c5, v5 = .slice a5 (U.length + B.length) c5 := (by obtain ⟨-, a5, c5, h, -⟩ := hr5.reads; exact ⟨a5, c5, h⟩)
       have HB5 : Hid (Below wx.heap.size wx w5) := chg_step (by assumption) hch5
       have HR5 := row_after (wx := wx) (by assumption) hr5
       clear hr5 hch5)
    | fail)
  all_goals
    have hs5 := HB5.out.size
    have hsx := HBx.out.size
    go_wp2_with fail
    go_ret
    exact ⟨a5, c5, rfl, HR5.out.mono (fun k hk => Nat.le_trans hsx hk), HBx.out.trans (HB5.out.mono hsx)⟩
set_option maxRecDepth 100000 in
set_option maxHeartbeats 4000000 in
theorem form_2 (n : Int) (f : Nat) (s : ByteArray) (a : Option Addr) (l c : Nat) (w : World) (B : List UInt8) (hB : B.length ≤ 1000000)
    (hC : ∀ W, Below w.heap.size w W → Calls Tryz.prog 217 #[.agg #[], .agg #[.int .i64 2, .int .i64 n, .float .f64 f, .string s, .slice a l c]] W (BytesP W B)) :
    Calls Tryz.prog 43 #[.agg #[.int .i64 2, .int .i64 n, .float .f64 f, .string s, .slice a l c]] w (BytesP w (uintL 2 ++ B)) := by
  have HU : Hid (∀ W, Calls Tryz.prog 72 #[.int .u64 2] W (BytesP W (uintL 2))) := fun W => uint_any 2 (by decide) W
  have hU10 := uintL_ten (x := 2) (by decide)
  have HBA := Lib.hid (byts_append (uintL 2) B)
  have hl : (uintL 2 ++ B).length = (uintL 2).length + B.length := List.length_append
  unfold BytesP
  rw [hl, HBA.out]
  clear hl HBA
  generalize uintL 2 = U at *
  have HC := Lib.hid hC
  clear hC
  have HXx : Hid ((w.alloc (.cells #[.int .i64 2, .int .i64 n, .float .f64 f, .string s, .slice a l c] 26)).heap[w.heap.size]? = some (.cells #[.int .i64 2, .int .i64 n, .float .f64 f, .string s, .slice a l c] 26 (0, 0))) := heap_alloc_new w _
  have HBx : Hid (Below w.heap.size w (w.alloc (.cells #[.int .i64 2, .int .i64 n, .float .f64 f, .string s, .slice a l c] 26))) := (Below.refl _ _).alloc (Nat.le_refl _) _
  have HK := Lib.hid kw_2
  have hmeth := kb_2
  go_enter Tryz.func43, Tryz.ntmps43
  go_upto_region 1 with fail
  generalize (w.alloc (.cells #[.int .i64 2, .int .i64 n, .float .f64 f, .string s, .slice a l c] 26)) = wx at *
  have HKS : Hid (∀ w', Hid (Below wx.heap.size wx w') → (w'.cell? ⟨w.heap.size, 0, none⟩ = some (.int .i64 2) ∧ w'.cell? ⟨w.heap.size, 1, none⟩ = some (.int .i64 n) ∧ w'.cell? ⟨w.heap.size, 2, none⟩ = some (.float .f64 f) ∧ w'.cell? ⟨w.heap.size, 3, none⟩ = some (.string s) ∧ w'.cell? ⟨w.heap.size, 4, none⟩ = some (.slice a l c))) := fun w' hb =>
    cells5 ((hb.out.block _ (lt_of_heap HXx.out)).trans HXx.out)
  have HB0 : Hid (Below wx.heap.size wx wx.drew) := (Below.refl _ _).drew
  have HB00 : Hid (Below wx.heap.size wx wx) := Below.refl _ _
  have HCC : Hid (∀ W, Hid (Below wx.heap.size wx W) → Calls Tryz.prog 217 #[.agg #[], .agg #[.int .i64 2, .int .i64 n, .float .f64 f, .string s, .slice a l c]] W (BytesP W B)) := fun W hW => HC.out W (HBx.out.trans (hW.out.mono HBx.out.size))
  clear HC
  go_region_held3 (fun w' => w'.cell? ⟨w.heap.size, 0, none⟩ = some (.int .i64 2) ∧ w'.cell? ⟨w.heap.size, 1, none⟩ = some (.int .i64 n) ∧ w'.cell? ⟨w.heap.size, 2, none⟩ = some (.float .f64 f) ∧ w'.cell? ⟨w.heap.size, 3, none⟩ = some (.string s) ∧ w'.cell? ⟨w.heap.size, 4, none⟩ = some (.slice a l c)) (exact HKS.out _ (by assumption))
    (first
    | (go_at_call 72; refine (HU.out _).mono ?_; rintro e wu ⟨ua, uc, rfl, hur, hub⟩
       have HRu := row_step (wx := wx) (by assumption) hur
       have HBu := bel_stepT (w0 := wx) (by assumption) hub
       have HUB := Lib.hid hub
       clear hub hur)
    | (go_at_call 39; refine (of_any 2 _).mono ?_; rintro e w3 ⟨rfl, rfl⟩; rw [HK.out])
    | (go_at_call 217; refine (HCC.out _ (by assumption)).mono ?_; rintro e wb ⟨ba, bc, rfl, hbr, hbb⟩
       have HRb := row_step (wx := wx) (by assumption) hbr
       have HBb := bel_stepT (w0 := wx) (by assumption) hbb
       have HBB := Lib.hid hbb
       clear hbb hbr)
    | (first
         | refine step_row elemU8 rfl rfl (S := fun k => wx.heap.size ≤ k) (v := .slice ua U.length uc) (n := U.length) (xs := byts U) rfl (HRu.out.frame (fun k _ hk => HBB.out.block k hk)) (y := .slice ba B.length bc) (m := B.length) (news := byts B) rfl HRb.out.reads (byts_one B) (by unfold maxLen; omega) (by omega) ?_
         | refine step_row elemU8 rfl rfl (S := fun k => wx.heap.size ≤ k) (v := .slice ua U.length uc) (n := U.length) (xs := byts U) rfl HRu.out (y := .slice ba B.length bc) (m := B.length) (news := byts B) rfl (HRb.out.frame (fun k _ hk => HUB.out.block k hk)).reads (byts_one B) (by unfold maxLen; omega) (by omega) ?_
       intro v5 w5 hr5 hch5
       obtain ⟨a5, c5, rfl⟩ : ∃ a5 c5, v5 = .slice a5 (U.length + B.length) c5 := (by obtain ⟨-, a5, c5, h, -⟩ := hr5.reads; exact ⟨a5, c5, h⟩)
       have HB5 : Hid (Below wx.heap.size wx w5) := chg_step (by assumption) hch5
       have HR5 := row_after (wx := wx) (by assumption) hr5
       clear hr5 hch5)
    | fail)
  all_goals
    have hs5 := HB5.out.size
    have hsx := HBx.out.size
    go_wp2_with fail
    go_ret
    exact ⟨a5, c5, rfl, HR5.out.mono (fun k hk => Nat.le_trans hsx hk), HBx.out.trans (HB5.out.mono hsx)⟩
set_option maxRecDepth 100000 in
set_option maxHeartbeats 4000000 in
theorem form_3 (n : Int) (f : Nat) (s : ByteArray) (a : Option Addr) (l c : Nat) (w : World) (B : List UInt8) (hB : B.length ≤ 1000000)
    (hC : ∀ W, Below w.heap.size w W → Calls Tryz.prog 220 #[.agg #[], .agg #[.int .i64 3, .int .i64 n, .float .f64 f, .string s, .slice a l c]] W (BytesP W B)) :
    Calls Tryz.prog 43 #[.agg #[.int .i64 3, .int .i64 n, .float .f64 f, .string s, .slice a l c]] w (BytesP w (uintL 3 ++ B)) := by
  have HU : Hid (∀ W, Calls Tryz.prog 72 #[.int .u64 3] W (BytesP W (uintL 3))) := fun W => uint_any 3 (by decide) W
  have hU10 := uintL_ten (x := 3) (by decide)
  have HBA := Lib.hid (byts_append (uintL 3) B)
  have hl : (uintL 3 ++ B).length = (uintL 3).length + B.length := List.length_append
  unfold BytesP
  rw [hl, HBA.out]
  clear hl HBA
  generalize uintL 3 = U at *
  have HC := Lib.hid hC
  clear hC
  have HXx : Hid ((w.alloc (.cells #[.int .i64 3, .int .i64 n, .float .f64 f, .string s, .slice a l c] 26)).heap[w.heap.size]? = some (.cells #[.int .i64 3, .int .i64 n, .float .f64 f, .string s, .slice a l c] 26 (0, 0))) := heap_alloc_new w _
  have HBx : Hid (Below w.heap.size w (w.alloc (.cells #[.int .i64 3, .int .i64 n, .float .f64 f, .string s, .slice a l c] 26))) := (Below.refl _ _).alloc (Nat.le_refl _) _
  have HK := Lib.hid kw_3
  have hmeth := kb_3
  go_enter Tryz.func43, Tryz.ntmps43
  go_upto_region 1 with fail
  generalize (w.alloc (.cells #[.int .i64 3, .int .i64 n, .float .f64 f, .string s, .slice a l c] 26)) = wx at *
  have HKS : Hid (∀ w', Hid (Below wx.heap.size wx w') → (w'.cell? ⟨w.heap.size, 0, none⟩ = some (.int .i64 3) ∧ w'.cell? ⟨w.heap.size, 1, none⟩ = some (.int .i64 n) ∧ w'.cell? ⟨w.heap.size, 2, none⟩ = some (.float .f64 f) ∧ w'.cell? ⟨w.heap.size, 3, none⟩ = some (.string s) ∧ w'.cell? ⟨w.heap.size, 4, none⟩ = some (.slice a l c))) := fun w' hb =>
    cells5 ((hb.out.block _ (lt_of_heap HXx.out)).trans HXx.out)
  have HB0 : Hid (Below wx.heap.size wx wx.drew) := (Below.refl _ _).drew
  have HB00 : Hid (Below wx.heap.size wx wx) := Below.refl _ _
  have HCC : Hid (∀ W, Hid (Below wx.heap.size wx W) → Calls Tryz.prog 220 #[.agg #[], .agg #[.int .i64 3, .int .i64 n, .float .f64 f, .string s, .slice a l c]] W (BytesP W B)) := fun W hW => HC.out W (HBx.out.trans (hW.out.mono HBx.out.size))
  clear HC
  go_region_held3 (fun w' => w'.cell? ⟨w.heap.size, 0, none⟩ = some (.int .i64 3) ∧ w'.cell? ⟨w.heap.size, 1, none⟩ = some (.int .i64 n) ∧ w'.cell? ⟨w.heap.size, 2, none⟩ = some (.float .f64 f) ∧ w'.cell? ⟨w.heap.size, 3, none⟩ = some (.string s) ∧ w'.cell? ⟨w.heap.size, 4, none⟩ = some (.slice a l c)) (exact HKS.out _ (by assumption))
    (first
    | (go_at_call 72; refine (HU.out _).mono ?_; rintro e wu ⟨ua, uc, rfl, hur, hub⟩
       have HRu := row_step (wx := wx) (by assumption) hur
       have HBu := bel_stepT (w0 := wx) (by assumption) hub
       have HUB := Lib.hid hub
       clear hub hur)
    | (go_at_call 39; refine (of_any 3 _).mono ?_; rintro e w3 ⟨rfl, rfl⟩; rw [HK.out])
    | (go_at_call 220; refine (HCC.out _ (by assumption)).mono ?_; rintro e wb ⟨ba, bc, rfl, hbr, hbb⟩
       have HRb := row_step (wx := wx) (by assumption) hbr
       have HBb := bel_stepT (w0 := wx) (by assumption) hbb
       have HBB := Lib.hid hbb
       clear hbb hbr)
    | (first
         | refine step_row elemU8 rfl rfl (S := fun k => wx.heap.size ≤ k) (v := .slice ua U.length uc) (n := U.length) (xs := byts U) rfl (HRu.out.frame (fun k _ hk => HBB.out.block k hk)) (y := .slice ba B.length bc) (m := B.length) (news := byts B) rfl HRb.out.reads (byts_one B) (by unfold maxLen; omega) (by omega) ?_
         | refine step_row elemU8 rfl rfl (S := fun k => wx.heap.size ≤ k) (v := .slice ua U.length uc) (n := U.length) (xs := byts U) rfl HRu.out (y := .slice ba B.length bc) (m := B.length) (news := byts B) rfl (HRb.out.frame (fun k _ hk => HUB.out.block k hk)).reads (byts_one B) (by unfold maxLen; omega) (by omega) ?_
       intro v5 w5 hr5 hch5
       obtain ⟨a5, c5, rfl⟩ : ∃ a5 c5, v5 = .slice a5 (U.length + B.length) c5 := (by obtain ⟨-, a5, c5, h, -⟩ := hr5.reads; exact ⟨a5, c5, h⟩)
       have HB5 : Hid (Below wx.heap.size wx w5) := chg_step (by assumption) hch5
       have HR5 := row_after (wx := wx) (by assumption) hr5
       clear hr5 hch5)
    | fail)
  all_goals
    have hs5 := HB5.out.size
    have hsx := HBx.out.size
    go_wp2_with fail
    go_ret
    exact ⟨a5, c5, rfl, HR5.out.mono (fun k hk => Nat.le_trans hsx hk), HBx.out.trans (HB5.out.mono hsx)⟩
set_option maxRecDepth 100000 in
set_option maxHeartbeats 4000000 in
theorem form_4 (n : Int) (f : Nat) (s : ByteArray) (a : Option Addr) (l c : Nat) (w : World) (B : List UInt8) (hB : B.length ≤ 1000000)
    (hC : ∀ W, Below w.heap.size w W → Calls Tryz.prog 224 #[.agg #[], .agg #[.int .i64 4, .int .i64 n, .float .f64 f, .string s, .slice a l c]] W (BytesP W B)) :
    Calls Tryz.prog 43 #[.agg #[.int .i64 4, .int .i64 n, .float .f64 f, .string s, .slice a l c]] w (BytesP w (uintL 4 ++ B)) := by
  have HU : Hid (∀ W, Calls Tryz.prog 72 #[.int .u64 4] W (BytesP W (uintL 4))) := fun W => uint_any 4 (by decide) W
  have hU10 := uintL_ten (x := 4) (by decide)
  have HBA := Lib.hid (byts_append (uintL 4) B)
  have hl : (uintL 4 ++ B).length = (uintL 4).length + B.length := List.length_append
  unfold BytesP
  rw [hl, HBA.out]
  clear hl HBA
  generalize uintL 4 = U at *
  have HC := Lib.hid hC
  clear hC
  have HXx : Hid ((w.alloc (.cells #[.int .i64 4, .int .i64 n, .float .f64 f, .string s, .slice a l c] 26)).heap[w.heap.size]? = some (.cells #[.int .i64 4, .int .i64 n, .float .f64 f, .string s, .slice a l c] 26 (0, 0))) := heap_alloc_new w _
  have HBx : Hid (Below w.heap.size w (w.alloc (.cells #[.int .i64 4, .int .i64 n, .float .f64 f, .string s, .slice a l c] 26))) := (Below.refl _ _).alloc (Nat.le_refl _) _
  have HK := Lib.hid kw_4
  have hmeth := kb_4
  go_enter Tryz.func43, Tryz.ntmps43
  go_upto_region 1 with fail
  generalize (w.alloc (.cells #[.int .i64 4, .int .i64 n, .float .f64 f, .string s, .slice a l c] 26)) = wx at *
  have HKS : Hid (∀ w', Hid (Below wx.heap.size wx w') → (w'.cell? ⟨w.heap.size, 0, none⟩ = some (.int .i64 4) ∧ w'.cell? ⟨w.heap.size, 1, none⟩ = some (.int .i64 n) ∧ w'.cell? ⟨w.heap.size, 2, none⟩ = some (.float .f64 f) ∧ w'.cell? ⟨w.heap.size, 3, none⟩ = some (.string s) ∧ w'.cell? ⟨w.heap.size, 4, none⟩ = some (.slice a l c))) := fun w' hb =>
    cells5 ((hb.out.block _ (lt_of_heap HXx.out)).trans HXx.out)
  have HB0 : Hid (Below wx.heap.size wx wx.drew) := (Below.refl _ _).drew
  have HB00 : Hid (Below wx.heap.size wx wx) := Below.refl _ _
  have HCC : Hid (∀ W, Hid (Below wx.heap.size wx W) → Calls Tryz.prog 224 #[.agg #[], .agg #[.int .i64 4, .int .i64 n, .float .f64 f, .string s, .slice a l c]] W (BytesP W B)) := fun W hW => HC.out W (HBx.out.trans (hW.out.mono HBx.out.size))
  clear HC
  go_region_held3 (fun w' => w'.cell? ⟨w.heap.size, 0, none⟩ = some (.int .i64 4) ∧ w'.cell? ⟨w.heap.size, 1, none⟩ = some (.int .i64 n) ∧ w'.cell? ⟨w.heap.size, 2, none⟩ = some (.float .f64 f) ∧ w'.cell? ⟨w.heap.size, 3, none⟩ = some (.string s) ∧ w'.cell? ⟨w.heap.size, 4, none⟩ = some (.slice a l c)) (exact HKS.out _ (by assumption))
    (first
    | (go_at_call 72; refine (HU.out _).mono ?_; rintro e wu ⟨ua, uc, rfl, hur, hub⟩
       have HRu := row_step (wx := wx) (by assumption) hur
       have HBu := bel_stepT (w0 := wx) (by assumption) hub
       have HUB := Lib.hid hub
       clear hub hur)
    | (go_at_call 39; refine (of_any 4 _).mono ?_; rintro e w3 ⟨rfl, rfl⟩; rw [HK.out])
    | (go_at_call 224; refine (HCC.out _ (by assumption)).mono ?_; rintro e wb ⟨ba, bc, rfl, hbr, hbb⟩
       have HRb := row_step (wx := wx) (by assumption) hbr
       have HBb := bel_stepT (w0 := wx) (by assumption) hbb
       have HBB := Lib.hid hbb
       clear hbb hbr)
    | (first
         | refine step_row elemU8 rfl rfl (S := fun k => wx.heap.size ≤ k) (v := .slice ua U.length uc) (n := U.length) (xs := byts U) rfl (HRu.out.frame (fun k _ hk => HBB.out.block k hk)) (y := .slice ba B.length bc) (m := B.length) (news := byts B) rfl HRb.out.reads (byts_one B) (by unfold maxLen; omega) (by omega) ?_
         | refine step_row elemU8 rfl rfl (S := fun k => wx.heap.size ≤ k) (v := .slice ua U.length uc) (n := U.length) (xs := byts U) rfl HRu.out (y := .slice ba B.length bc) (m := B.length) (news := byts B) rfl (HRb.out.frame (fun k _ hk => HUB.out.block k hk)).reads (byts_one B) (by unfold maxLen; omega) (by omega) ?_
       intro v5 w5 hr5 hch5
       obtain ⟨a5, c5, rfl⟩ : ∃ a5 c5, v5 = .slice a5 (U.length + B.length) c5 := (by obtain ⟨-, a5, c5, h, -⟩ := hr5.reads; exact ⟨a5, c5, h⟩)
       have HB5 : Hid (Below wx.heap.size wx w5) := chg_step (by assumption) hch5
       have HR5 := row_after (wx := wx) (by assumption) hr5
       clear hr5 hch5)
    | fail)
  all_goals
    have hs5 := HB5.out.size
    have hsx := HBx.out.size
    go_wp2_with fail
    go_ret
    exact ⟨a5, c5, rfl, HR5.out.mono (fun k hk => Nat.le_trans hsx hk), HBx.out.trans (HB5.out.mono hsx)⟩
theorem uintT_pos (t : VT) : 1 ≤ (formT t).length := by
  obtain ⟨k, n, f, s, l⟩ := t
  rw [formT, List.length_append]
  have := uintL_pos k.toNat
  omega
theorem formsT_ge : ∀ l : List VT, l.length ≤ (formsT l).length ∧ ∀ t ∈ l, (formT t).length ≤ (formsT l).length
  | [] => ⟨by simp, by simp⟩
  | t :: ts => by
    have h := formsT_ge ts
    have h1 := uintT_pos t
    rw [formsT, List.length_append, List.length_cons]
    refine ⟨by omega, fun u hu => ?_⟩
    rcases List.mem_cons.1 hu with rfl | hu
    · omega
    · have := h.2 u hu
      omega
theorem form_any (t : VT) : ∀ (left : Int), goodT left t = true → wfT t → (formT t).length ≤ 1000000 → FormC t := by
  induction t using VT.ind with
  | _ k n f s l ih =>
    intro left hg hw hl
    rw [goodT, Bool.and_eq_true] at hg
    obtain ⟨hh, hgl⟩ := hg
    obtain ⟨hk, hk4⟩ := head_of hh
    rw [wfT] at hw
    obtain ⟨-, hn, hf, hs, hwl⟩ := hw
    intro v S w hv
    obtain ⟨e1, e2, e3, e4, e5⟩ := hv.fields
    have hv2 := hv
    obtain ⟨vk, vn, vf, vs, va, vl, vc⟩ := v
    simp only [VT.k, VT.n, VT.f, VT.s, VT.l] at e1 e2 e3 e4 e5
    subst e1 e2 e3 e4
    obtain rfl | rfl | rfl | rfl | rfl : vk = 0 ∨ vk = 1 ∨ vk = 2 ∨ vk = 3 ∨ vk = 4 := by omega
    · have ht : formT (.node 0 vn vf vs l) = uintL 0 ++ [] := by rw [formT, if_neg (by decide)]; rfl
      rw [ht]
      exact form_0 vn vf vs va vl vc w [] (Nat.zero_le _) (fun W _ => none_bytes ⟨0, vn, vf, vs, va, vl, vc⟩ W)
    · have ht : formT (.node 1 vn vf vs l) = uintL 1 ++ uintL (zz vn) := by rw [formT, if_neg (by decide)]; rfl
      rw [ht, List.length_append] at hl
      rw [ht]
      exact form_1 vn vf vs va vl vc w _ (by omega) (fun W _ => int_bytes ⟨1, vn, vf, vs, va, vl, vc⟩ hn W)
    · have ht : formT (.node 2 vn vf vs l) = uintL 2 ++ beN (canonB vf) 8 := by rw [formT, if_neg (by decide)]; rfl
      rw [ht, List.length_append] at hl
      rw [ht]
      exact form_2 vn vf vs va vl vc w _ (by omega) (fun W _ => float_bytes ⟨2, vn, vf, vs, va, vl, vc⟩ hf W)
    · have ht : formT (.node 3 vn vf vs l) = uintL 3 ++ (uintL vs.size ++ vs.data.toList) := by rw [formT, if_neg (by decide)]; rfl
      rw [ht, List.length_append] at hl
      rw [ht]
      have hl2 : (uintL vs.size ++ vs.data.toList).length = (uintL vs.size).length + vs.size := by rw [List.length_append, bsize]
      exact form_3 vn vf vs va vl vc w _ (by omega) (fun W _ => text_bytes ⟨3, vn, vf, vs, va, vl, vc⟩ (by show vs.size ≤ _; omega) W)
    · have ht : formT (.node 4 vn vf vs l) = uintL 4 ++ (uintL l.length ++ formsT l) := by rw [formT, if_pos rfl]; rfl
      rw [ht, List.length_append] at hl
      rw [ht]
      have h1 := formsT_ge l
      have hl2 : (uintL l.length ++ formsT l).length = (uintL l.length).length + (formsT l).length := List.length_append
      exact form_4 vn vf vs va vl vc w _ (by omega) (fun W hW => list_bytes vn vf vs l (by omega) (by omega) (fun t ht => ih t ht (left - 1) ((goodL_iff _ _).1 hgl t ht) ((wfL_iff l).1 hwl t ht) (by have := h1.2 t ht; omega)) ⟨4, vn, vf, vs, va, vl, vc⟩ S W (hv2.later hW))
/-- What value.Bytes leaves. -/
def BytesTop (w : World) (t : VT) (e : Ending) (w' : World) : Prop :=
  (if goodT 8 t = true then ∃ (a : Option Addr) (c : Nat), e = .returned (.tuple #[.slice a (formT t).length c, .bool true]) ∧ Row w' 5 1 (.slice a (formT t).length c) (formT t).length (byts (formT t)) (fun k => w.heap.size ≤ k)
    else e = .returned (.tuple #[.slice none 0 0, .bool false])) ∧ Below w.heap.size w w'
set_option maxRecDepth 100000 in
set_option maxHeartbeats 4000000 in
theorem vbytes_any (t : VT) (v : VV) (S : Nat → Prop) (w : World) (hv : TRead w S t v) (hwf : wfT t) (hlen : goodT 8 t = true → (formT t).length ≤ 1000000) :
    Calls Tryz.prog 15 #[v.val] w (BytesTop w t) := by
  have HX : Hid ((w.alloc (.cells #[.int .i64 v.k, .int .i64 v.n, .float .f64 v.f, .string v.s, .slice v.a v.l v.c] 26)).heap[w.heap.size]? = some (.cells #[.int .i64 v.k, .int .i64 v.n, .float .f64 v.f, .string v.s, .slice v.a v.l v.c] 26 (0, 0))) := heap_alloc_new w _
  have HBel : Hid (Below w.heap.size w (w.alloc (.cells #[.int .i64 v.k, .int .i64 v.n, .float .f64 v.f, .string v.s, .slice v.a v.l v.c] 26))) := (Below.refl _ _).alloc (Nat.le_refl _) _
  have HVA := Lib.hid (valid_any t v S _ (hv.later HBel.out) hwf)
  have HC : Hid (goodT 8 t = true → ∀ W, Below w.heap.size w W → Calls Tryz.prog 43 #[v.val] W (BytesP W (formT t))) :=
    fun h W hW => form_any t 8 h hwf (hlen h) v S W (hv.later hW)
  unfold BytesTop
  generalize goodT 8 t = g at *
  generalize formT t = B at *
  clear hv hwf hlen
  obtain ⟨pk, pn, pf, ps, pa, pl, pc⟩ := v
  dsimp only [VV.val] at *
  go_enter Tryz.func15, Tryz.ntmps15
  go_upto_region 1 with fail
  generalize w.alloc (.cells #[.int .i64 pk, .int .i64 pn, .float .f64 pf, .string ps, .slice pa pl pc] 26) = wa at *
  obtain ⟨x0, x1, x2, x3, x4⟩ := cells5 HX.out
  go_wp2_with fail
  refine HVA.out.mono ?_
  rintro e w2 ⟨rfl, hb2⟩
  have HB2 := Lib.hid (HBel.out.trans (hb2.mono HBel.out.size))
  have HX2 := Lib.hid ((hb2.block _ (lt_of_heap HX.out)).trans HX.out)
  clear hb2 x0 x1 x2 x3 x4
  cases g with
  | false =>
    go_wp2_with fail
    go_ret2
    exact ⟨by simp, HB2.out⟩
  | true =>
    have HC2 := Lib.hid (HC.out rfl w2 HB2.out)
    obtain ⟨x0, x1, x2, x3, x4⟩ := cells5 HX2.out
    go_wp2_with fail
    refine HC2.out.mono ?_
    rintro e w3 ⟨a, c, rfl, hr, hb3⟩
    have HB3 := Lib.hid (HB2.out.trans (hb3.mono HB2.out.size))
    have HR3 : Hid (Row w3 5 1 (.slice a B.length c) B.length (byts B) (fun k => w.heap.size ≤ k)) := hr.mono (fun k hk => Nat.le_trans HB2.out.size hk)
    clear hb3 hr
    go_wp2_with fail
    go_ret2
    exact ⟨⟨a, c, rfl, HR3.out⟩, HB3.out⟩
end Go.Proofs.YtpijpeocdlnhiaaGreatDoor
