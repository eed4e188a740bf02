/- The contracts of Go's library that these proofs use, laid over this translation by the kit's shelf. -/
import Derived.Shelf.Strings.Builder1
import Derived.Shelf.Strings.Builder2
import Derived.Shelf.Small.Bits
import Derived.Shelf.Small.Wraps
import Derived.Shelf.Strings.BuilderF
import Derived.Shelf.Strings.BuilderK
import Derived.Shelf.Strings.Builder2Cap
import Derived.Shelf.Strconv.Itoa0
import Derived.Shelf.Strconv.Itoa1
import Derived.Shelf.LaysM
import Derived.Shelf.Strconv.Itoa2
import Derived.Shelf.Strconv.Itoa3
import Derived.Shelf.Sort.Plain
import Derived.Shelf.Strings.Prefix
import Derived.Shelf.Bits.Mul64
import Derived.Shelf.Strings.Repeat
import Derived.Shelf.Strings.BuilderCap
import Derived.Shelf.Slices.Equal
import Derived.Ground.Names2Prog
import Derived.Shelf.Slices.CompactI
import Derived.Shelf.Slices.SearchI
import Derived.Shelf.Slices.Cells
import Derived.Shelf.Slices.In.SortNone
import Derived.Shelf.Slices.Empties2
import Derived.Test.YtnpkjkbcmidbmaaDoorProg
import Derived.Test.YtnpkjkbcmidbmaaDoorRows
/-- The name of the table of powers, as the given row lists it. -/
def Go.Proofs.YtnpkjkbcmidbmaaDoor.powName : String := Go.Proofs.YtnpkjkbcmidbmaaDoor.Rows.segmentOrdersRow.named.headD (String.ofList [])
namespace Go.Proofs
open Go.Shelf
def Tryd.lays103_ren : Go.Shelf.Ren := ⟨fun | 103 => 18 | 210 => 30 | 206 => 37 | n => n, fun | 9 => 9 | 4 => 4 | 24 => 23 | 3 => 3 | n => n, fun | n => n⟩
theorem Tryd.lays103 : Go.Proofs.Lays.n103 Tryd.prog Tryd.lays103_ren := {
  mixed := by kernel_rfl
  f103 := Tryd.func18.trans (congrArg some (by kernel_rfl))
  f206 := Tryd.func37.trans (congrArg some (by kernel_rfl))
  f210 := Tryd.func30.trans (congrArg some (by kernel_rfl))
  t3 := Tryd.underlying3
  a3 := Tryd.isAgg3
  z3 := Tryd.sizeOf3
  v3 := Tryd.zeroValue3
  t4 := Tryd.underlying4
  a4 := Tryd.isAgg4
  z4 := Tryd.sizeOf4
  v4 := Tryd.zeroValue4
  t9 := Tryd.underlying9
  a9 := Tryd.isAgg9
  z9 := Tryd.sizeOf9
  v9 := Tryd.zeroValue9
  t24 := Tryd.underlying23
  a24 := Tryd.isAgg23
  z24 := Tryd.sizeOf23
  v24 := Tryd.zeroValue23 }
open Go.RowKit in
theorem Tryd.strings_CutPrefix (s p : ByteArray) (w : World) :
    Calls Tryd.prog 18 #[.string s, .string p] w fun e w' => e = .returned (.tuple #[.string ⟨(Lib.trimPrefix s.data.toList p.data.toList).toArray⟩, .bool (Lib.hasPrefix s.data.toList p.data.toList)]) ∧ w' = w := Any.strings_CutPrefix Tryd.lays103 s p w
def Tryd.laysM171_ren : Go.Shelf.Ren := ⟨fun | 171 => 16 | 243 => 23 | 246 => 34 | 283 => 50 | 284 => 51 | 285 => 52 | 286 => 53 | 129 => 49 | 317 => 61 | 318 => 62 | 319 => 63 | 320 => 64 | 337 => 66 | 338 => 67 | n => n, fun | 3 => 3 | 9 => 9 | 2 => 2 | 4 => 4 | 171 => 78 | 0 => 0 | 53 => 65 | 37 => 50 | 5 => 5 | 173 => 80 | 212 => 93 | 51 => 22 | 20 => 20 | 213 => 94 | 46 => 45 | 232 => 98 | 233 => 99 | n => n, fun | 17 => 0 | 18 => 2 | 19 => 3 | n => n⟩
theorem Tryd.laysM171 : Go.Proofs.LaysM.n171 Tryd.prog Tryd.laysM171_ren := {
  mixed := by kernel_rfl
  f129 := Tryd.func49.trans (congrArg some (by kernel_rfl))
  f171 := Tryd.func16.trans (congrArg some (by kernel_rfl))
  f243 := Tryd.func23.trans (congrArg some (by kernel_rfl))
  f246 := Tryd.func34.trans (congrArg some (by kernel_rfl))
  f283 := Tryd.func50.trans (congrArg some (by kernel_rfl))
  f284 := Tryd.func51.trans (congrArg some (by kernel_rfl))
  f285 := Tryd.func52.trans (congrArg some (by kernel_rfl))
  f286 := Tryd.func53.trans (congrArg some (by kernel_rfl))
  f317 := Tryd.func61.trans (congrArg some (by kernel_rfl))
  f318 := Tryd.func62.trans (congrArg some (by kernel_rfl))
  f319 := Tryd.func63.trans (congrArg some (by kernel_rfl))
  f320 := Tryd.func64.trans (congrArg some (by kernel_rfl))
  f337 := Tryd.func66.trans (congrArg some (by kernel_rfl))
  f338 := Tryd.func67.trans (congrArg some (by kernel_rfl))
  t0 := Tryd.underlying0
  a0 := Tryd.isAgg0
  z0 := Tryd.sizeOf0
  v0 := Tryd.zeroValue0
  t2 := Tryd.underlying2
  a2 := Tryd.isAgg2
  z2 := Tryd.sizeOf2
  v2 := Tryd.zeroValue2
  t3 := Tryd.underlying3
  a3 := Tryd.isAgg3
  z3 := Tryd.sizeOf3
  v3 := Tryd.zeroValue3
  t4 := Tryd.underlying4
  a4 := Tryd.isAgg4
  z4 := Tryd.sizeOf4
  v4 := Tryd.zeroValue4
  t5 := Tryd.underlying5
  a5 := Tryd.isAgg5
  z5 := Tryd.sizeOf5
  v5 := Tryd.zeroValue5
  t9 := Tryd.underlying9
  a9 := Tryd.isAgg9
  z9 := Tryd.sizeOf9
  v9 := Tryd.zeroValue9
  t20 := Tryd.underlying20
  a20 := Tryd.isAgg20
  z20 := Tryd.sizeOf20
  v20 := Tryd.zeroValue20
  t37 := Tryd.underlying50
  a37 := Tryd.isAgg50
  z37 := Tryd.sizeOf50
  v37 := Tryd.zeroValue50
  t46 := Tryd.underlying45
  a46 := Tryd.isAgg45
  z46 := Tryd.sizeOf45
  v46 := Tryd.zeroValue45
  t51 := Tryd.underlying22
  a51 := Tryd.isAgg22
  z51 := Tryd.sizeOf22
  v51 := Tryd.zeroValue22
  t53 := Tryd.underlying65
  a53 := Tryd.isAgg65
  z53 := Tryd.sizeOf65
  v53 := Tryd.zeroValue65
  t171 := Tryd.underlying78
  a171 := Tryd.isAgg78
  z171 := Tryd.sizeOf78
  v171 := Tryd.zeroValue78
  t173 := Tryd.underlying80
  a173 := Tryd.isAgg80
  z173 := Tryd.sizeOf80
  v173 := Tryd.zeroValue80
  t212 := Tryd.underlying93
  a212 := Tryd.isAgg93
  z212 := Tryd.sizeOf93
  v212 := Tryd.zeroValue93
  t213 := Tryd.underlying94
  a213 := Tryd.isAgg94
  z213 := Tryd.sizeOf94
  t232 := Tryd.underlying98
  a232 := Tryd.isAgg98
  z232 := Tryd.sizeOf98
  v232 := Tryd.zeroValue98
  t233 := Tryd.underlying99
  a233 := Tryd.isAgg99
  z233 := Tryd.sizeOf99
  v233 := Tryd.zeroValue99
  g17 := by kernel_rfl
  g18 := by kernel_rfl
  g19 := by kernel_rfl
  i0 := by kernel_rfl
  i2 := by kernel_rfl
  i3 := by kernel_rfl
  i4 := by kernel_rfl
  i5 := by kernel_rfl
  i9 := by kernel_rfl
  i20 := by kernel_rfl
  i37 := by kernel_rfl
  i46 := by kernel_rfl
  i51 := by kernel_rfl
  i53 := by kernel_rfl
  i171 := by kernel_rfl
  i173 := by kernel_rfl
  i212 := by kernel_rfl
  i232 := by kernel_rfl
  i233 := by kernel_rfl
  m17 := by kernel_rfl
  m18 := by kernel_rfl
  m19 := by kernel_rfl }
open Go.RowKit Go.Sort Go.Lib in
theorem Tryd.strconv_Itoa (n : Int) (h0 : -9223372036854775808 ≤ n) (h1 : n ≤ 9223372036854775807) (w : World) (htab : Lib.TabIs Tryd.prog w Go.Proofs.YtnpkjkbcmidbmaaDoor.powName .u64 Lib.pow10Tab) :
    Calls Tryd.prog 16 #[.int .i64 n] w fun e w' => e = .returned (.string ⟨(Lib.itoa n).toArray⟩) ∧ ∃ k os, w' = grow (w.drewN k) os := Any.strconv_Itoa Tryd.laysM171 n h0 h1 w htab
def Tryd.lays105_ren : Go.Shelf.Ren := ⟨fun | 105 => 17 | 212 => 24 | 99 => 25 | 165 => 26 | 166 => 27 | 170 => 28 | 169 => 29 | 263 => 35 | 264 => 36 | 206 => 37 | 240 => 38 | 241 => 39 | 276 => 54 | 277 => 55 | n => n, fun | 9 => 9 | 3 => 3 | 4 => 4 | 20 => 20 | 0 => 0 | 46 => 45 | 109 => 46 | 5 => 5 | 72 => 52 | 76 => 56 | 51 => 22 | 146 => 63 | 53 => 65 | 148 => 66 | 70 => 49 | 37 => 50 | 75 => 55 | 127 => 68 | 164 => 82 | 80 => 59 | n => n, fun | n => n⟩
theorem Tryd.lays105 : Go.Proofs.Lays.n105 Tryd.prog Tryd.lays105_ren := {
  mixed := by kernel_rfl
  f99 := Tryd.func25.trans (congrArg some (by kernel_rfl))
  f105 := Tryd.func17.trans (congrArg some (by kernel_rfl))
  f165 := Tryd.func26.trans (congrArg some (by kernel_rfl))
  f166 := Tryd.func27.trans (congrArg some (by kernel_rfl))
  f169 := Tryd.func29.trans (congrArg some (by kernel_rfl))
  f170 := Tryd.func28.trans (congrArg some (by kernel_rfl))
  f206 := Tryd.func37.trans (congrArg some (by kernel_rfl))
  f212 := Tryd.func24.trans (congrArg some (by kernel_rfl))
  f240 := Tryd.func38.trans (congrArg some (by kernel_rfl))
  f241 := Tryd.func39.trans (congrArg some (by kernel_rfl))
  f263 := Tryd.func35.trans (congrArg some (by kernel_rfl))
  f264 := Tryd.func36.trans (congrArg some (by kernel_rfl))
  f276 := Tryd.func54.trans (congrArg some (by kernel_rfl))
  f277 := Tryd.func55.trans (congrArg some (by kernel_rfl))
  t0 := Tryd.underlying0
  a0 := Tryd.isAgg0
  z0 := Tryd.sizeOf0
  v0 := Tryd.zeroValue0
  t3 := Tryd.underlying3
  a3 := Tryd.isAgg3
  z3 := Tryd.sizeOf3
  v3 := Tryd.zeroValue3
  t4 := Tryd.underlying4
  a4 := Tryd.isAgg4
  z4 := Tryd.sizeOf4
  v4 := Tryd.zeroValue4
  t5 := Tryd.underlying5
  a5 := Tryd.isAgg5
  z5 := Tryd.sizeOf5
  v5 := Tryd.zeroValue5
  t9 := Tryd.underlying9
  a9 := Tryd.isAgg9
  z9 := Tryd.sizeOf9
  v9 := Tryd.zeroValue9
  t20 := Tryd.underlying20
  a20 := Tryd.isAgg20
  z20 := Tryd.sizeOf20
  v20 := Tryd.zeroValue20
  t37 := Tryd.underlying50
  a37 := Tryd.isAgg50
  z37 := Tryd.sizeOf50
  v37 := Tryd.zeroValue50
  t46 := Tryd.underlying45
  a46 := Tryd.isAgg45
  z46 := Tryd.sizeOf45
  v46 := Tryd.zeroValue45
  t51 := Tryd.underlying22
  a51 := Tryd.isAgg22
  z51 := Tryd.sizeOf22
  v51 := Tryd.zeroValue22
  t53 := Tryd.underlying65
  a53 := Tryd.isAgg65
  z53 := Tryd.sizeOf65
  v53 := Tryd.zeroValue65
  t70 := Tryd.underlying49
  a70 := Tryd.isAgg49
  z70 := Tryd.sizeOf49
  v70 := Tryd.zeroValue49
  t72 := Tryd.underlying52
  a72 := Tryd.isAgg52
  z72 := Tryd.sizeOf52
  v72 := Tryd.zeroValue52
  t75 := Tryd.underlying55
  a75 := Tryd.isAgg55
  z75 := Tryd.sizeOf55
  v75 := Tryd.zeroValue55
  t76 := Tryd.underlying56
  a76 := Tryd.isAgg56
  z76 := Tryd.sizeOf56
  v76 := Tryd.zeroValue56
  t109 := Tryd.underlying46
  a109 := Tryd.isAgg46
  z109 := Tryd.sizeOf46
  v109 := Tryd.zeroValue46
  t127 := Tryd.underlying68
  a127 := Tryd.isAgg68
  z127 := Tryd.sizeOf68
  v127 := Tryd.zeroValue68
  t146 := Tryd.underlying63
  a146 := Tryd.isAgg63
  z146 := Tryd.sizeOf63
  v146 := Tryd.zeroValue63
  t148 := Tryd.underlying66
  a148 := Tryd.isAgg66
  z148 := Tryd.sizeOf66
  v148 := Tryd.zeroValue66
  t164 := Tryd.underlying82
  a164 := Tryd.isAgg82
  z164 := Tryd.sizeOf82
  v164 := Tryd.zeroValue82 }
theorem Tryd.Builder_Extra_105 : Builder.Extra Tryd.prog Tryd.lays105_ren := {
  sizeBuilder := by kernel_rfl
  liesBuilder := by kernel_rfl
  t5 := Tryd.underlying5
  a5 := Tryd.isAgg5
  z5 := Tryd.sizeOf5
  v5 := Tryd.zeroValue5
  infoByte := by kernel_rfl
  cellsByte := by kernel_rfl
  sizeByte := by kernel_rfl
  neB5 := by decide }
open Go.RowKit Go.Lib in
theorem Tryd.strings_Repeat (s : ByteArray) (c : Nat) (w : World) (hc : c ≤ 9223372036854775807) (hlen : s.size * c ≤ 140737488355328) :
    Calls Tryd.prog 17 #[.string s, .int .i64 c] w fun e w' => e = .returned (.string ⟨(Lib.repeatL s.data.toList c).toArray⟩) ∧ Below w.heap.size w w' := Any.strings_Repeat Tryd.lays105 Tryd.Builder_Extra_105 s c w hc hlen
end Go.Proofs
