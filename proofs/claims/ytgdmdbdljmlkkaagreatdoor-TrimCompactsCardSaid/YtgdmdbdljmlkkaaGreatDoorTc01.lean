/- Texts for trimCompacts_holds that the joined texts lack. -/
import Derived.Test.YtgdmdbdljmlkkaaGreatDoorTt01
import Derived.Test.YtgdmdbdljmlkkaaGreatDoorTt02
import Derived.Test.YtgdmdbdljmlkkaaGreatDoorTt03
import Derived.Test.YtgdmdbdljmlkkaaGreatDoorTt04
import Derived.Test.YtgdmdbdljmlkkaaGreatDoorTt05
import Derived.Test.YtgdmdbdljmlkkaaGreatDoorTt06
import Derived.Test.YtgdmdbdljmlkkaaGreatDoorTt07
import Derived.Test.YtgdmdbdljmlkkaaGreatDoorTt08
import Derived.Test.YtgdmdbdljmlkkaaGreatDoorTt09
import Derived.Test.YtgdmdbdljmlkkaaGreatDoorTt10
import Derived.Test.YtgdmdbdljmlkkaaGreatDoorTt11
import Derived.Test.YtgdmdbdljmlkkaaGreatDoorTt12
import Derived.Test.YtgdmdbdljmlkkaaGreatDoorTt13
import Derived.Test.YtgdmdbdljmlkkaaGreatDoorTt14
import Derived.Test.YtgdmdbdljmlkkaaGreatDoorTt15
import Derived.Test.YtgdmdbdljmlkkaaGreatDoorTt16
import Derived.Test.YtgdmdbdljmlkkaaGreatDoorTt17
import Derived.Test.YtgdmdbdljmlkkaaGreatDoorTt18
import Derived.Test.YtgdmdbdljmlkkaaGreatDoorTt19
import Derived.Test.YtgdmdbdljmlkkaaGreatDoorTt20
import Derived.Test.YtgdmdbdljmlkkaaGreatDoorTt21
import Derived.Test.YtgdmdbdljmlkkaaGreatDoorTt22
import Derived.Test.YtgdmdbdljmlkkaaGreatDoorTt23
import Derived.Test.YtgdmdbdljmlkkaaGreatDoorTt24
import Derived.Test.YtgdmdbdljmlkkaaGreatDoorTt25
import Derived.Test.YtgdmdbdljmlkkaaGreatDoorTt26
import Derived.Test.YtgdmdbdljmlkkaaGreatDoorTt27
import Derived.Test.YtgdmdbdljmlkkaaGreatDoorTt28
import Derived.Test.YtgdmdbdljmlkkaaGreatDoorTt29
import Derived.Test.YtgdmdbdljmlkkaaGreatDoorTt30
import Derived.Test.YtgdmdbdljmlkkaaGreatDoorTt31
import Derived.Test.YtgdmdbdljmlkkaaGreatDoorTt32
import Derived.Test.YtgdmdbdljmlkkaaGreatDoorTt33
import Derived.Test.YtgdmdbdljmlkkaaGreatDoorTt34
import Derived.Test.YtgdmdbdljmlkkaaGreatDoorTt35
import Derived.Test.YtgdmdbdljmlkkaaGreatDoorTt36
import Derived.Test.YtgdmdbdljmlkkaaGreatDoorTt37
import Derived.Test.YtgdmdbdljmlkkaaGreatDoorTt38
import Derived.Test.YtgdmdbdljmlkkaaGreatDoorTt39
import Derived.Test.YtgdmdbdljmlkkaaGreatDoorTt40
import Derived.Test.YtgdmdbdljmlkkaaGreatDoorTt42
import Derived.Test.YtgdmdbdljmlkkaaGreatDoorRows
import Derived.Lib.SliceRun
import Derived.Deep.Cut
set_option linter.unusedVariables false
set_option linter.unusedSimpArgs false
namespace Go.Proofs.YtgdmdbdljmlkkaaGreatDoor
open Go.RowKit
end Go.Proofs.YtgdmdbdljmlkkaaGreatDoor
namespace Go.Proofs.YtgdmdbdljmlkkaaGreatDoor
open Go.RowKit
set_option maxRecDepth 100000 in
theorem arm_any (x : Value) (n : Int) (D : DS) (S : Nat → Prop) (w : World) (h : DRep w x D S) :
    Calls Tryz.prog 26 #[x, .int .i64 n] w fun e w' => e = .returned (.tuple #[]) ∧ DRep w' x { D with plan := max n 0 } S ∧ Chg S w w' := by
  obtain ⟨bx, bm, col, pv, rfl, h⟩ := h
  have hc2 := cellAt h.blk 2 (v := .int .i64 D.plan) rfl
  have hf2 := freeAt h.blk 2
  have HB := Lib.hid (heap_store h.blk 2 (.int .i64 (max n 0)))
  have HC : Hid (Chg (fun k => k = bx) w (w.setCell ⟨bx, 2, none⟩ (.int .i64 (max n 0)))) := (Chg.refl (fun k => k = bx) _).setCell (p := ⟨bx, 2, none⟩) (.inl rfl) _
  have H := Lib.hid h
  clear h
  go_enter Tryz.func26, Tryz.ntmps26
  go_wp2
  go_end0
  exact ⟨rfl, ⟨bx, bm, col, pv, rfl, H.out.head { D with plan := max n 0 } rfl HB.out HC.out⟩, HC.out.mono (fun k hk => by rw [hk]; exact H.out.sx.1)⟩
end Go.Proofs.YtgdmdbdljmlkkaaGreatDoor
namespace Go.Proofs.YtgdmdbdljmlkkaaGreatDoor
open Go.RowKit Go.Maps Go.Sort Go.Shelf Go.Proofs
end Go.Proofs.YtgdmdbdljmlkkaaGreatDoor
namespace Go.Proofs.YtgdmdbdljmlkkaaGreatDoor
open Go.RowKit
instance : DecidableEq DF := fun a b => decidable_of_iff (a.name = b.name ∧ a.b = b.b ∧ a.d = b.d) (by cases a; cases b; simp)
section
variable {D F : DS} (h : Rel D F)
include h
end
end Go.Proofs.YtgdmdbdljmlkkaaGreatDoor
namespace Go.Proofs.YtgdmdbdljmlkkaaGreatDoor
open Go.RowKit
theorem rel_arm {D F : DS} (h : Rel D F) (n : Int) : Rel { D with plan := n } { F with plan := n } := ⟨h.room, rfl, h.down, h.nd, h.so, h.same⟩
end Go.Proofs.YtgdmdbdljmlkkaaGreatDoor
namespace Go.Proofs.YtgdmdbdljmlkkaaGreatDoor
open Go.RowKit
end Go.Proofs.YtgdmdbdljmlkkaaGreatDoor
namespace Go.Proofs.YtgdmdbdljmlkkaaGreatDoor
open Go.RowKit
end Go.Proofs.YtgdmdbdljmlkkaaGreatDoor
namespace Go.Proofs.YtgdmdbdljmlkkaaGreatDoor
open Go.RowKit
section
variable (L : LS) (bl b0 : Nat) (d : Value) (S : Nat → Prop) (w : World) (h : LAt w bl d L S) (h0 : w.heap[b0]? = some (.cells #[.pointer (some ⟨bl, 0, none⟩)] 27 (0, 0))) (hn0 : ¬ S b0) (ht : Tab w) (hp : 0 ≤ L.D.plan ∧ L.D.plan ≤ 9223372036854775807)
include h h0 hn0 ht hp
end
end Go.Proofs.YtgdmdbdljmlkkaaGreatDoor
namespace Go.Proofs.YtgdmdbdljmlkkaaGreatDoor
open Go.RowKit
section
variable (L : LS) (bl b0 b3 : Nat) (d : Value) (S : Nat → Prop) (w : World) (n3 s3 w3 : Int) (h : LAt w bl d L S) (h0 : w.heap[b0]? = some (.cells #[.pointer (some ⟨bl, 0, none⟩)] 27 (0, 0)))
  (h3 : w.heap[b3]? = some (.cells #[.int .i64 n3, .int .i64 s3, .int .i64 w3] 146 (0, 0)))
include h h0 h3
end
end Go.Proofs.YtgdmdbdljmlkkaaGreatDoor
namespace Go.Proofs.YtgdmdbdljmlkkaaGreatDoor
open Go.RowKit
section
variable {w w1 w2 : World} {bl b : Nat} {d : Value} {S : Nat → Prop} {L : LS} {n3 : Int} {fs : Array Value}
end
end Go.Proofs.YtgdmdbdljmlkkaaGreatDoor
namespace Go.Proofs.YtgdmdbdljmlkkaaGreatDoor
open Go.RowKit
theorem lwaiting_any (L : LS) (bl : Nat) (d : Value) (S : Nat → Prop) (w : World) (h : LAt w bl d L S) :
    Calls Tryz.prog 53 #[.pointer (some ⟨bl, 0, none⟩)] w fun e w' => e = .returned (.int .i64 L.waiting) ∧ w' = w := by
  obtain ⟨c0, c1, c2, c3, c4⟩ := cells5w h.blk
  clear h
  go_enter Tryz.func53, Tryz.ntmps53
  go_wp2
  go_ret
  exact ⟨rfl, rfl⟩
end Go.Proofs.YtgdmdbdljmlkkaaGreatDoor
namespace Go.Proofs.YtgdmdbdljmlkkaaGreatDoor
open Go.RowKit
theorem opsF_calm {D : DS} (hd : D.down = false) (hp : D.plan = 0) (n : ByteArray) (b : List UInt8) : ((opsF.app D n b).1.down = false ∧ (opsF.app D n b).1.plan = 0) ∧ ((opsF.syn D n).1.down = false ∧ (opsF.syn D n).1.plan = 0) ∧ ((opsF.cre D n).1.down = false ∧ (opsF.cre D n).1.plan = 0) := by
  have h2 := doR_calm hd hp ⟨2, n, ⟨#[]⟩, b⟩
  have h3 := doR_calm hd hp ⟨3, n, ⟨#[]⟩, []⟩
  have h1 := doR_calm hd hp ⟨1, n, ⟨#[]⟩, []⟩
  exact ⟨⟨h2.1, h2.2.1⟩, ⟨h3.1, h3.2.1⟩, h1.1, h1.2.1⟩
theorem putF_calm {M : LS} (hd : M.D.down = false) (hp : M.D.plan = 0) (r : List UInt8) : (putG opsF M r).1.D.down = false ∧ (putG opsF M r).1.D.plan = 0 := by
  have hrot : (rotG opsF M).1.D.down = false ∧ (rotG opsF M).1.D.plan = 0 := by
    unfold rotG
    split
    · exact ⟨hd, hp⟩
    · have h1 := (opsF_calm hd hp (nameI M.n) []).2.1
      split
      · exact h1
      · have h2 := (opsF_calm h1.1 h1.2 (nameI (M.n + 1)) []).2.2
        split
        · exact h2
        · exact h2
  have happ : ∀ K : LS, K.D.down = false → K.D.plan = 0 → (appG opsF K r).1.D.down = false ∧ (appG opsF K r).1.D.plan = 0 := fun K h1 h2 => by
    have h3 := (opsF_calm h1 h2 (nameI K.n) (frameB r)).1
    unfold appG
    split
    · exact h3
    · exact h3
  unfold putG
  split
  · exact ⟨hd, hp⟩
  · split
    · exact ⟨hd, hp⟩
    · split
      · split
        · exact hrot
        · exact happ _ hrot.1 hrot.2
      · exact happ _ hd hp
theorem puts_calm (l : List (List UInt8)) : ∀ {M : LS}, M.D.down = false → M.D.plan = 0 → (putsG opsF M l).D.down = false ∧ (putsG opsF M l).D.plan = 0 := by
  induction l with
  | nil => intro M h1 h2; exact ⟨h1, h2⟩
  | cons r l ih =>
    intro M h1 h2
    have h3 := putF_calm h1 h2 r
    exact ih h3.1 h3.2
end Go.Proofs.YtgdmdbdljmlkkaaGreatDoor
namespace Go.Proofs.YtgdmdbdljmlkkaaGreatDoor
open Go.RowKit
theorem stringVs_eq (R : List RF) : namesR R = (R.map fun r => r.f.name).map Value.string := by
  unfold namesR; rw [List.map_map]; rfl
set_option maxRecDepth 100000 in
set_option maxHeartbeats 1000000 in
theorem sequal_any (a1 a2 : Option Addr) (c1 c2 : Nat) (l : List ByteArray) (w : World) (h1 : Reads w (.slice a1 l.length c1) l.length 1 (l.map Value.string)) (h2 : Reads w (.slice a2 l.length c2) l.length 1 (l.map Value.string)) (hl : l.length ≤ 100000) :
    Calls Tryz.prog 48 #[.slice a1 l.length c1, .slice a2 l.length c2] w fun e w' => e = .returned (.bool true) ∧ Below w.heap.size w w' := by
  have HC : Hid (∀ (j : Nat) (hj : j < l.length), ∃ b o b' o', a1 = some ⟨b, o, none⟩ ∧ a2 = some ⟨b', o', none⟩ ∧ l.length ≤ c1 ∧ l.length ≤ c2 ∧ b < w.heap.size ∧ b' < w.heap.size ∧ w.cell? ⟨b, o + j, none⟩ = some (.string l[j]) ∧ w.cell? ⟨b', o' + j, none⟩ = some (.string l[j])) := by
    intro j hj
    obtain ⟨b, o, c', hv, hle, hb, hc⟩ := h1.at (by omega)
    cases hv
    obtain ⟨b', o', c'', hv, hle', hb', hc'⟩ := h2.at (by omega)
    cases hv
    refine ⟨b, o, b', o', rfl, rfl, hle, hle', hb, hb', hc j _ ?_, hc' j _ ?_⟩
    · rw [List.getElem?_map, List.getElem?_eq_getElem hj]; rfl
    · rw [List.getElem?_map, List.getElem?_eq_getElem hj]; rfl
  clear h1 h2
  go_enter Tryz.func48, Tryz.ntmps48
  go_wp2_with fail
  go_loopw [13] (fun i w' => ∃ m : Nat, m ≤ l.length ∧ i = .int .i64 m ∧ Hid (Below w.heap.size w w')) (fun i _ => l.length - (RowKit.intOf i).toNat)
  case atStart => exact ⟨0, by omega, rfl, Below.refl _ _⟩
  case round =>
    obtain ⟨m, hm, rfl, HB⟩ := hrel
    by_cases hlt : m < l.length
    · obtain ⟨b, o, b', o', rfl, rfl, hle, hle', hb, hb', k1, k2⟩ := HC.out m hlt
      have hc1 := (HB.out.cell (p := ⟨b, o + m, none⟩) hb).trans k1
      have hc2 := (HB.out.cell (p := ⟨b', o' + m, none⟩) hb').trans k2
      clear k1 k2
      generalize l[m] = s at *
      go_wp2_with fail
      go_quiet (fail)
      have HBN := Lib.hid (show Below w.heap.size w (wr.drewN nq) from ⟨HB.out.os, HB.out.tape, HB.out.output, HB.out.size, HB.out.block⟩)
      clear hc1 hc2 hb hb'
      go_wp2
      go_roundw
      case rel => exact ⟨m + 1, by omega, by go_num, HBN⟩
      case measure => simp [RowKit.intOf]; omega
    · obtain rfl : m = l.length := by omega
      go_wp2
      go_ret
      exact ⟨rfl, HB.out⟩
end Go.Proofs.YtgdmdbdljmlkkaaGreatDoor
namespace Go.Proofs.YtgdmdbdljmlkkaaGreatDoor
open Go.RowKit
theorem comp_both {L M : LS} (h : RelL L M) (hd : M.D.down = false) (hn : 0 ≤ M.n ∧ M.n ≤ 99999) (ok : Bool) (b : List UInt8) (most : Int) :
    (if ok then (compK doP b (L.n + 1) 0 L.D).2 else 2) = (compR M most ok b).2 ∧ Rel (if ok then (compK doP b (L.n + 1) 0 L.D).1 else L.D) (compR M most ok b).1.D ∧
      (ok = true → (compK doP b (L.n + 1) 0 L.D).2 = 0 → (compR M most ok b).1.n = L.n + 1 ∧ (compR M most ok b).1.size = b.length ∧ (compR M most ok b).1.waiting = 0 ∧ (compR M most ok b).1.most = most) := by
  obtain ⟨h1, h2⟩ := comp_rel h hd hn b
  unfold compR
  cases ok with
  | false => exact ⟨rfl, h.rel, fun h => by cases h⟩
  | true =>
    simp only [reduceIte, Bool.true_eq_false]
    rw [h1]
    by_cases h0 : (stepsG doR M.D (compRL M.D M.n b)).2 = 0
    · rw [if_pos h0]
      exact ⟨h0, h2, fun _ _ => ⟨by rw [h.n], rfl, rfl, rfl⟩⟩
    · rw [if_neg h0]
      exact ⟨rfl, h2, fun _ h => absurd h h0⟩
end Go.Proofs.YtgdmdbdljmlkkaaGreatDoor
namespace Go.Proofs.YtgdmdbdljmlkkaaGreatDoor
open Go.RowKit
theorem belh_end {w w1 w2 : World} (h0 : Hid (Below w.heap.size w w1)) (h1 : Hid (Below w1.heap.size w1 w2)) : Below w.heap.size w w2 := h0.out.trans (h1.out.mono h0.out.size)
end Go.Proofs.YtgdmdbdljmlkkaaGreatDoor
