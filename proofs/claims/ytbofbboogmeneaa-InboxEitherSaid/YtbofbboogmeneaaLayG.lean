/- Contracts of generic functions of Go's library, laid over this translation by the kit's shelf. -/
import Derived.Shelf.SlGeneric
import Derived.Shelf.SlIter.Nil
import Derived.Test.YtbofbboogmeneaaProg
namespace Go.Proofs
open Go.Shelf
def Try.keysV_ren : Go.Shelf.Ren := ⟨fun | 7 => 43 | 10 => 60 | n => n, fun | 23 => 60 | 26 => 9 | 3 => 65 | 28 => 85 | 0 => 0 | 27 => 84 | 33 => 113 | 4 => 4 | n => n, fun | n => n⟩
theorem Try.keysV : Go.Proofs.SlLaysZ.n7 Try.prog Try.keysV_ren := {
  mixed := by kernel_rfl
  f7 := ⟨Try.f43.name, by decide, Try.func43.trans (congrArg some (by kernel_rfl))⟩
  f10 := ⟨Try.f60.name, by decide, Try.func60.trans (congrArg some (by kernel_rfl))⟩
  t0 := Try.underlying0
  a0 := Try.isAgg0
  z0 := Try.sizeOf0
  v0 := Try.zeroValue0
  t4 := Try.underlying4
  a4 := Try.isAgg4
  z4 := Try.sizeOf4
  v4 := Try.zeroValue4
  t23 := Try.underlying60
  a23 := Try.isAgg60
  z23 := Try.sizeOf60
  v23 := Try.zeroValue60
  t26 := Try.underlying9
  a26 := Try.isAgg9
  z26 := Try.sizeOf9
  v26 := Try.zeroValue9
  t27 := Try.underlying84
  a27 := Try.isAgg84
  z27 := Try.sizeOf84
  v27 := Try.zeroValue84
  t28 := Try.underlying85
  a28 := Try.isAgg85
  z28 := Try.sizeOf85
  v28 := Try.zeroValue85
  t33 := Try.underlying113
  a33 := Try.isAgg113
  z33 := Try.sizeOf113
  v33 := Try.zeroValue113 }
def Try.keysQ_ren : Go.Shelf.Ren := ⟨fun | 7 => 44 | 10 => 61 | n => n, fun | 23 => 61 | 26 => 9 | 3 => 71 | 28 => 85 | 0 => 0 | 27 => 84 | 33 => 113 | 4 => 4 | n => n, fun | n => n⟩
theorem Try.keysQ : Go.Proofs.SlLaysZ.n7 Try.prog Try.keysQ_ren := {
  mixed := by kernel_rfl
  f7 := ⟨Try.f44.name, by decide, Try.func44.trans (congrArg some (by kernel_rfl))⟩
  f10 := ⟨Try.f61.name, by decide, Try.func61.trans (congrArg some (by kernel_rfl))⟩
  t0 := Try.underlying0
  a0 := Try.isAgg0
  z0 := Try.sizeOf0
  v0 := Try.zeroValue0
  t4 := Try.underlying4
  a4 := Try.isAgg4
  z4 := Try.sizeOf4
  v4 := Try.zeroValue4
  t23 := Try.underlying61
  a23 := Try.isAgg61
  z23 := Try.sizeOf61
  v23 := Try.zeroValue61
  t26 := Try.underlying9
  a26 := Try.isAgg9
  z26 := Try.sizeOf9
  v26 := Try.zeroValue9
  t27 := Try.underlying84
  a27 := Try.isAgg84
  z27 := Try.sizeOf84
  v27 := Try.zeroValue84
  t28 := Try.underlying85
  a28 := Try.isAgg85
  z28 := Try.sizeOf85
  v28 := Try.zeroValue85
  t33 := Try.underlying113
  a33 := Try.isAgg113
  z33 := Try.sizeOf113
  v33 := Try.zeroValue113 }
def Try.collectS_ren : Go.Shelf.Ren := ⟨fun | 8 => 42 | 11 => 41 | n => n, fun | 26 => 9 | 28 => 85 | 24 => 46 | 0 => 0 | 33 => 113 | 4 => 4 | n => n, fun | n => n⟩
theorem Try.collectS : Go.Proofs.SlLaysZ.n8 Try.prog Try.collectS_ren := {
  mixed := by kernel_rfl
  f8 := ⟨Try.f42.name, by decide, Try.func42.trans (congrArg some (by kernel_rfl))⟩
  f11 := ⟨Try.f41.name, by decide, Try.func41.trans (congrArg some (by kernel_rfl))⟩
  t0 := Try.underlying0
  a0 := Try.isAgg0
  z0 := Try.sizeOf0
  v0 := Try.zeroValue0
  t24 := Try.underlying46
  a24 := Try.isAgg46
  z24 := Try.sizeOf46
  v24 := Try.zeroValue46
  t26 := Try.underlying9
  a26 := Try.isAgg9
  z26 := Try.sizeOf9
  v26 := Try.zeroValue9
  t28 := Try.underlying85
  a28 := Try.isAgg85
  z28 := Try.sizeOf85
  v28 := Try.zeroValue85
  i26 := by kernel_rfl }
end Go.Proofs
