/- Texts for trimCosts_holds that the joined texts lack. -/
import Derived.Test.YtgdmdbdljmlkkaaGreatDoorTt01
import Derived.Test.YtgdmdbdljmlkkaaGreatDoorTt02
import Derived.Test.YtgdmdbdljmlkkaaGreatDoorTt03
import Derived.Test.YtgdmdbdljmlkkaaGreatDoorTt04
import Derived.Test.YtgdmdbdljmlkkaaGreatDoorTt05
import Derived.Test.YtgdmdbdljmlkkaaGreatDoorTt06
import Derived.Test.YtgdmdbdljmlkkaaGreatDoorTt07
import Derived.Test.YtgdmdbdljmlkkaaGreatDoorTt08
import Derived.Test.YtgdmdbdljmlkkaaGreatDoorTt09
import Derived.Test.YtgdmdbdljmlkkaaGreatDoorTt10
import Derived.Test.YtgdmdbdljmlkkaaGreatDoorTt11
import Derived.Test.YtgdmdbdljmlkkaaGreatDoorTt12
import Derived.Test.YtgdmdbdljmlkkaaGreatDoorTt13
import Derived.Test.YtgdmdbdljmlkkaaGreatDoorTt14
import Derived.Test.YtgdmdbdljmlkkaaGreatDoorTt15
import Derived.Test.YtgdmdbdljmlkkaaGreatDoorTt16
import Derived.Test.YtgdmdbdljmlkkaaGreatDoorTt17
import Derived.Test.YtgdmdbdljmlkkaaGreatDoorTt18
import Derived.Test.YtgdmdbdljmlkkaaGreatDoorTt19
import Derived.Test.YtgdmdbdljmlkkaaGreatDoorTt20
import Derived.Test.YtgdmdbdljmlkkaaGreatDoorTt21
import Derived.Test.YtgdmdbdljmlkkaaGreatDoorTt22
import Derived.Test.YtgdmdbdljmlkkaaGreatDoorTt23
import Derived.Test.YtgdmdbdljmlkkaaGreatDoorTt24
import Derived.Test.YtgdmdbdljmlkkaaGreatDoorTt25
import Derived.Test.YtgdmdbdljmlkkaaGreatDoorTt26
import Derived.Test.YtgdmdbdljmlkkaaGreatDoorTt27
import Derived.Test.YtgdmdbdljmlkkaaGreatDoorTt28
import Derived.Test.YtgdmdbdljmlkkaaGreatDoorTt29
import Derived.Test.YtgdmdbdljmlkkaaGreatDoorTt30
import Derived.Test.YtgdmdbdljmlkkaaGreatDoorTt31
import Derived.Test.YtgdmdbdljmlkkaaGreatDoorTt32
import Derived.Test.YtgdmdbdljmlkkaaGreatDoorTt33
import Derived.Test.YtgdmdbdljmlkkaaGreatDoorTt34
import Derived.Test.YtgdmdbdljmlkkaaGreatDoorTt35
import Derived.Test.YtgdmdbdljmlkkaaGreatDoorTt36
import Derived.Test.YtgdmdbdljmlkkaaGreatDoorTt37
import Derived.Test.YtgdmdbdljmlkkaaGreatDoorTt38
import Derived.Test.YtgdmdbdljmlkkaaGreatDoorTt39
import Derived.Test.YtgdmdbdljmlkkaaGreatDoorTt40
import Derived.Test.YtgdmdbdljmlkkaaGreatDoorTt42
import Derived.Test.YtgdmdbdljmlkkaaGreatDoorRows
import Derived.Sort.Walk0
set_option linter.unusedVariables false
set_option linter.unusedSimpArgs false
namespace Go.Proofs.YtgdmdbdljmlkkaaGreatDoor
open Go.RowKit
end Go.Proofs.YtgdmdbdljmlkkaaGreatDoor
namespace Go.Proofs.YtgdmdbdljmlkkaaGreatDoor
open Go.RowKit
end Go.Proofs.YtgdmdbdljmlkkaaGreatDoor
namespace Go.Proofs.YtgdmdbdljmlkkaaGreatDoor
open Go.RowKit
theorem upto_length (i n : Nat) : (upto i n).length = n := by simp [upto]
theorem namesN_length (i n : Nat) : (namesN i n).length = n := by simp [namesN]
theorem namesN_nodup {i n : Nat} (h : i + n ≤ 99999999) : (namesN i n).Nodup := by
  unfold namesN List.Nodup
  rw [List.pairwise_map]
  refine List.Pairwise.imp_of_mem (R := fun a b => a < b) (fun {a b} ha hb hab => ?_) List.pairwise_lt_range
  have := List.mem_range.1 hb
  exact nameI_ne (by omega) (by omega) (by omega)
end Go.Proofs.YtgdmdbdljmlkkaaGreatDoor
namespace Go.Proofs.YtgdmdbdljmlkkaaGreatDoor
open Go.RowKit
set_option maxRecDepth 100000 in
theorem list_nil (w : World) : Calls Tryz.prog 49 #[.pointer none] w fun e w' => e = .returned (.slice none 0 0) ∧ w' = w := by
  go_enter Tryz.func49, Tryz.ntmps49
  go_wp2
  go_ret
  exact ⟨rfl, rfl⟩
end Go.Proofs.YtgdmdbdljmlkkaaGreatDoor
namespace Go.Proofs.YtgdmdbdljmlkkaaGreatDoor
open Go.RowKit
end Go.Proofs.YtgdmdbdljmlkkaaGreatDoor
namespace Go.Proofs.YtgdmdbdljmlkkaaGreatDoor
open Go.RowKit
section
variable (x : Value) (D : DS) (S : Nat → Prop) (w : World) (h : DRep w x D S) (ht : Tab w) (hl : D.files.length ≤ 1000) (hs : sumD D.files ≤ 100000) (hnm : ∀ f ∈ D.files, f.name.size ≤ maxLen)
include h ht hl hs hnm
end
end Go.Proofs.YtgdmdbdljmlkkaaGreatDoor
namespace Go.Proofs.YtgdmdbdljmlkkaaGreatDoor
open Go.RowKit
section
variable {w0 w w' : World} {bl bx B : Nat} {L M : LS} {a : Option Addr} {c : Nat} {R : List RF} {S T : Nat → Prop} {s q : Nat}
theorem DuelL.later (h : DuelL w0 w bl bx B L M a c R S T s q) (hb : Below w.heap.size w w') : DuelL w0 w' bl bx B L M a c R S T s q :=
  ⟨h.d.later hb, (hb.block _ (lt_of_heap h.blk)).trans h.blk, h.bS, h.bT, h.bB⟩
end
end Go.Proofs.YtgdmdbdljmlkkaaGreatDoor
namespace Go.Proofs.YtgdmdbdljmlkkaaGreatDoor
open Go.RowKit
theorem belh_end {w w1 w2 : World} (h0 : Hid (Below w.heap.size w w1)) (h1 : Hid (Below w1.heap.size w1 w2)) : Below w.heap.size w w2 := h0.out.trans (h1.out.mono h0.out.size)
end Go.Proofs.YtgdmdbdljmlkkaaGreatDoor
