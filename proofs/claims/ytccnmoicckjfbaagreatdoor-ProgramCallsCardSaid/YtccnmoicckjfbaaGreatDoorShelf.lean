/- The contracts of Go's library that these proofs use, laid over this translation by the kit's shelf. -/
import Derived.Shelf.Strings.Builder1
import Derived.Shelf.Strings.Builder2
import Derived.Shelf.Strings.OnBuilder
import Derived.Shelf.Bits.Mul64
import Derived.Shelf.Slices.Equal
import Derived.Shelf.Slices.CompactS
import Derived.Test.YtccnmoicckjfbaaGreatDoorProg
namespace Go.Proofs
open Go.Shelf
def Tryz.lays156_ren : Go.Shelf.Ren := ⟨fun | 156 => 22 | 165 => 31 | 166 => 32 | 169 => 33 | 240 => 49 | 241 => 50 | 276 => 65 | 277 => 66 | n => n, fun | 31 => 25 | 9 => 9 | 3 => 3 | 4 => 4 | 0 => 0 | 20 => 20 | 72 => 68 | 76 => 72 | 70 => 65 | 37 => 66 | 75 => 71 | 127 => 93 | 164 => 117 | 5 => 5 | 80 => 46 | n => n, fun | n => n⟩
theorem Tryz.lays156 : Go.Proofs.Lays.n156 Tryz.prog Tryz.lays156_ren := {
  mixed := by kernel_rfl
  f156 := Tryz.func22.trans (congrArg some (by kernel_rfl))
  f165 := Tryz.func31.trans (congrArg some (by kernel_rfl))
  f166 := Tryz.func32.trans (congrArg some (by kernel_rfl))
  f169 := Tryz.func33.trans (congrArg some (by kernel_rfl))
  f240 := Tryz.func49.trans (congrArg some (by kernel_rfl))
  f241 := Tryz.func50.trans (congrArg some (by kernel_rfl))
  f276 := Tryz.func65.trans (congrArg some (by kernel_rfl))
  f277 := Tryz.func66.trans (congrArg some (by kernel_rfl))
  t0 := Tryz.underlying0
  a0 := Tryz.isAgg0
  z0 := Tryz.sizeOf0
  v0 := Tryz.zeroValue0
  t3 := Tryz.underlying3
  a3 := Tryz.isAgg3
  z3 := Tryz.sizeOf3
  v3 := Tryz.zeroValue3
  t4 := Tryz.underlying4
  a4 := Tryz.isAgg4
  z4 := Tryz.sizeOf4
  v4 := Tryz.zeroValue4
  t9 := Tryz.underlying9
  a9 := Tryz.isAgg9
  z9 := Tryz.sizeOf9
  v9 := Tryz.zeroValue9
  t20 := Tryz.underlying20
  a20 := Tryz.isAgg20
  z20 := Tryz.sizeOf20
  v20 := Tryz.zeroValue20
  t31 := Tryz.underlying25
  a31 := Tryz.isAgg25
  z31 := Tryz.sizeOf25
  v31 := Tryz.zeroValue25
  t37 := Tryz.underlying66
  a37 := Tryz.isAgg66
  z37 := Tryz.sizeOf66
  v37 := Tryz.zeroValue66
  t70 := Tryz.underlying65
  a70 := Tryz.isAgg65
  z70 := Tryz.sizeOf65
  v70 := Tryz.zeroValue65
  t72 := Tryz.underlying68
  a72 := Tryz.isAgg68
  z72 := Tryz.sizeOf68
  v72 := Tryz.zeroValue68
  t75 := Tryz.underlying71
  a75 := Tryz.isAgg71
  z75 := Tryz.sizeOf71
  v75 := Tryz.zeroValue71
  t76 := Tryz.underlying72
  a76 := Tryz.isAgg72
  z76 := Tryz.sizeOf72
  v76 := Tryz.zeroValue72
  t127 := Tryz.underlying93
  a127 := Tryz.isAgg93
  z127 := Tryz.sizeOf93
  v127 := Tryz.zeroValue93
  t164 := Tryz.underlying117
  a164 := Tryz.isAgg117
  z164 := Tryz.sizeOf117
  v164 := Tryz.zeroValue117 }
theorem Tryz.Builder_Extra_156 : Builder.Extra Tryz.prog Tryz.lays156_ren := {
  sizeBuilder := by kernel_rfl
  liesBuilder := by kernel_rfl
  t5 := Tryz.underlying5
  a5 := Tryz.isAgg5
  z5 := Tryz.sizeOf5
  v5 := Tryz.zeroValue5
  infoByte := by kernel_rfl
  cellsByte := by kernel_rfl
  sizeByte := by kernel_rfl
  neB5 := by decide }
open Go.RowKit in
theorem Tryz.strings_Join (bk o c : Nat) (xs : List ByteArray) (sep : ByteArray) (w : World) (hcells : ∀ (j : Nat) x, xs[j]? = some x → w.cell? ⟨bk, o + j, none⟩ = some (.string x)) (hbk : bk < w.heap.size) (hN : xs.length ≤ 140737488355328) (hcap : xs.length ≤ c) (hlen : (Lib.join (xs.map (·.data.toList)) sep.data.toList).length ≤ 140737488355328) :
    Calls Tryz.prog 22 #[.slice (some ⟨bk, o, none⟩) xs.length c, .string sep] w fun e w' => e = .returned (.string ⟨(Lib.join (xs.map (·.data.toList)) sep.data.toList).toArray⟩) ∧ Below w.heap.size w w' := Any.strings_Join Tryz.lays156 Tryz.Builder_Extra_156 bk o c xs sep w hcells hbk hN hcap hlen
end Go.Proofs
