/- The contracts of Go's library that these proofs use, laid over this translation by the kit's shelf. -/
import Derived.Shelf.Strings.Builder1
import Derived.Shelf.Strings.Builder2
import Derived.Shelf.Strings.Trim
import Derived.Shelf.Small.Utf8
import Derived.Shelf.Small.Strs
import Derived.Shelf.Small.Wraps
import Derived.Shelf.Strings.BuilderF
import Derived.Shelf.Strconv.Itoa0
import Derived.Shelf.Strconv.Itoa1
import Derived.Shelf.LaysM
import Derived.Shelf.Strconv.Itoa2
import Derived.Shelf.Strconv.Itoa3
import Derived.Shelf.Strings.Search1
import Derived.Shelf.Sort.Plain
import Derived.Shelf.Strings.Prefix
import Derived.Shelf.Strings.Runes
import Derived.Shelf.Strings.AsciiSet
import Derived.Shelf.Bits.Mul64
import Derived.Shelf.Strings.Repeat
import Derived.Shelf.Unicode.DecodeSlow
import Derived.Shelf.Slices.Equal
import Derived.Ground.Names2Prog
import Derived.Shelf.Slices.Clone
import Derived.Shelf.Slices.CompactI
import Derived.Shelf.Slices.SearchI
import Derived.Shelf.Slices.In.SortNone
import Derived.Test.YtnmlbjgnemmigaaGreatDoorProg
import Derived.Test.YtnmlbjgnemmigaaGreatDoorRows
/-- The name of the table of powers, as the given row lists it. -/
def Go.Proofs.YtnmlbjgnemmigaaGreatDoor.powName : String := Go.Proofs.YtnmlbjgnemmigaaGreatDoor.Rows.walRecordsRow.named.getD 2 (String.ofList [])
namespace Go.Proofs
open Go.Shelf
def Tryz.lays160_ren : Go.Shelf.Ren := ⟨fun | 160 => 129 | 232 => 159 | 231 => 158 | 227 => 160 | 234 => 162 | 233 => 161 | 236 => 164 | 235 => 163 | 228 => 179 | 271 => 182 | 151 => 181 | 197 => 180 | 120 => 190 | 152 => 189 | 260 => 188 | 137 => 132 | 119 => 191 | 224 => 192 | 225 => 193 | 217 => 166 | 266 => 183 | n => n, fun | 9 => 9 | 4 => 4 | 3 => 3 | 5 => 5 | 117 => 208 | 116 => 207 | 0 => 0 | 124 => 211 | 21 => 21 | 105 => 225 | 46 => 141 | 119 => 233 | 139 => 236 | 138 => 235 | n => n, fun | 3 => 4 | 4 => 5 | n => n⟩
theorem Tryz.lays160 : Go.Proofs.Lays.n160 Tryz.prog Tryz.lays160_ren := {
  mixed := by kernel_rfl
  f119 := Tryz.func191.trans (congrArg some (by kernel_rfl))
  f120 := Tryz.func190.trans (congrArg some (by kernel_rfl))
  f137 := Tryz.func132.trans (congrArg some (by kernel_rfl))
  f151 := Tryz.func181.trans (congrArg some (by kernel_rfl))
  f152 := Tryz.func189.trans (congrArg some (by kernel_rfl))
  f160 := Tryz.func129.trans (congrArg some (by kernel_rfl))
  f197 := Tryz.func180.trans (congrArg some (by kernel_rfl))
  f217 := Tryz.func166.trans (congrArg some (by kernel_rfl))
  f224 := Tryz.func192.trans (congrArg some (by kernel_rfl))
  f225 := Tryz.func193.trans (congrArg some (by kernel_rfl))
  f227 := Tryz.func160.trans (congrArg some (by kernel_rfl))
  f228 := Tryz.func179.trans (congrArg some (by kernel_rfl))
  f231 := Tryz.func158.trans (congrArg some (by kernel_rfl))
  f232 := Tryz.func159.trans (congrArg some (by kernel_rfl))
  f233 := Tryz.func161.trans (congrArg some (by kernel_rfl))
  f234 := Tryz.func162.trans (congrArg some (by kernel_rfl))
  f235 := Tryz.func163.trans (congrArg some (by kernel_rfl))
  f236 := Tryz.func164.trans (congrArg some (by kernel_rfl))
  f260 := Tryz.func188.trans (congrArg some (by kernel_rfl))
  f266 := Tryz.func183.trans (congrArg some (by kernel_rfl))
  f271 := Tryz.func182.trans (congrArg some (by kernel_rfl))
  t0 := Tryz.underlying0
  a0 := Tryz.isAgg0
  z0 := Tryz.sizeOf0
  v0 := Tryz.zeroValue0
  t3 := Tryz.underlying3
  a3 := Tryz.isAgg3
  z3 := Tryz.sizeOf3
  v3 := Tryz.zeroValue3
  t4 := Tryz.underlying4
  a4 := Tryz.isAgg4
  z4 := Tryz.sizeOf4
  v4 := Tryz.zeroValue4
  t5 := Tryz.underlying5
  a5 := Tryz.isAgg5
  z5 := Tryz.sizeOf5
  v5 := Tryz.zeroValue5
  t9 := Tryz.underlying9
  a9 := Tryz.isAgg9
  z9 := Tryz.sizeOf9
  v9 := Tryz.zeroValue9
  t21 := Tryz.underlying21
  a21 := Tryz.isAgg21
  z21 := Tryz.sizeOf21
  v21 := Tryz.zeroValue21
  t46 := Tryz.underlying141
  a46 := Tryz.isAgg141
  z46 := Tryz.sizeOf141
  v46 := Tryz.zeroValue141
  t105 := Tryz.underlying225
  a105 := Tryz.isAgg225
  z105 := Tryz.sizeOf225
  v105 := Tryz.zeroValue225
  t116 := Tryz.underlying207
  a116 := Tryz.isAgg207
  z116 := Tryz.sizeOf207
  t117 := Tryz.underlying208
  a117 := Tryz.isAgg208
  z117 := Tryz.sizeOf208
  v117 := Tryz.zeroValue208
  t119 := Tryz.underlying233
  a119 := Tryz.isAgg233
  z119 := Tryz.sizeOf233
  t124 := Tryz.underlying211
  a124 := Tryz.isAgg211
  z124 := Tryz.sizeOf211
  v124 := Tryz.zeroValue211
  t138 := Tryz.underlying235
  a138 := Tryz.isAgg235
  z138 := Tryz.sizeOf235
  v138 := Tryz.zeroValue235
  t139 := Tryz.underlying236
  a139 := Tryz.isAgg236
  z139 := Tryz.sizeOf236
  v139 := Tryz.zeroValue236
  g3 := by kernel_rfl
  g4 := by kernel_rfl }
open Go.RowKit in
theorem Tryz.strings_Trim_one (s : ByteArray) (c : UInt8) (hc : c.toNat < 128) (w : World) (hs : s.size ≤ 9223372036854775807) :
    Calls Tryz.prog 129 #[.string s, .string ⟨#[c]⟩] w fun e w' => e = .returned (.string ⟨(Lib.trimB s.data.toList c).toArray⟩) ∧ (w' = w ∨ w' = w.drew) := Any.strings_Trim_one Tryz.lays160 s c hc w hs
def Tryz.lays137_ren : Go.Shelf.Ren := ⟨fun | 137 => 132 | 217 => 166 | 266 => 183 | n => n, fun | 9 => 9 | 5 => 5 | 3 => 3 | n => n, fun | n => n⟩
theorem Tryz.lays137 : Go.Proofs.Lays.n137 Tryz.prog Tryz.lays137_ren := {
  mixed := by kernel_rfl
  f137 := Tryz.func132.trans (congrArg some (by kernel_rfl))
  f217 := Tryz.func166.trans (congrArg some (by kernel_rfl))
  f266 := Tryz.func183.trans (congrArg some (by kernel_rfl))
  t3 := Tryz.underlying3
  a3 := Tryz.isAgg3
  z3 := Tryz.sizeOf3
  v3 := Tryz.zeroValue3
  t5 := Tryz.underlying5
  a5 := Tryz.isAgg5
  z5 := Tryz.sizeOf5
  v5 := Tryz.zeroValue5
  t9 := Tryz.underlying9
  a9 := Tryz.isAgg9
  z9 := Tryz.sizeOf9
  v9 := Tryz.zeroValue9 }
open Go.RowKit in
theorem Tryz.strings_IndexByte (s : ByteArray) (c : Int) (w : World) :
    Calls Tryz.prog 132 #[.string s, .int .u8 c] w fun e w' => e = .returned (.int .i64 (Lib.indexByte s.data.toList c.toNat.toUInt8)) ∧ w' = w := Any.strings_IndexByte Tryz.lays137 s c w
def Tryz.lays103_ren : Go.Shelf.Ren := ⟨fun | 103 => 87 | 210 => 119 | 206 => 125 | n => n, fun | 9 => 9 | 4 => 4 | 24 => 51 | 3 => 3 | n => n, fun | n => n⟩
theorem Tryz.lays103 : Go.Proofs.Lays.n103 Tryz.prog Tryz.lays103_ren := {
  mixed := by kernel_rfl
  f103 := Tryz.func87.trans (congrArg some (by kernel_rfl))
  f206 := Tryz.func125.trans (congrArg some (by kernel_rfl))
  f210 := Tryz.func119.trans (congrArg some (by kernel_rfl))
  t3 := Tryz.underlying3
  a3 := Tryz.isAgg3
  z3 := Tryz.sizeOf3
  v3 := Tryz.zeroValue3
  t4 := Tryz.underlying4
  a4 := Tryz.isAgg4
  z4 := Tryz.sizeOf4
  v4 := Tryz.zeroValue4
  t9 := Tryz.underlying9
  a9 := Tryz.isAgg9
  z9 := Tryz.sizeOf9
  v9 := Tryz.zeroValue9
  t24 := Tryz.underlying51
  a24 := Tryz.isAgg51
  z24 := Tryz.sizeOf51
  v24 := Tryz.zeroValue51 }
open Go.RowKit in
theorem Tryz.strings_CutPrefix (s p : ByteArray) (w : World) :
    Calls Tryz.prog 87 #[.string s, .string p] w fun e w' => e = .returned (.tuple #[.string ⟨(Lib.trimPrefix s.data.toList p.data.toList).toArray⟩, .bool (Lib.hasPrefix s.data.toList p.data.toList)]) ∧ w' = w := Any.strings_CutPrefix Tryz.lays103 s p w
def Tryz.laysM171_ren : Go.Shelf.Ren := ⟨fun | 171 => 54 | 243 => 91 | 246 => 122 | 283 => 152 | 284 => 153 | 285 => 154 | 286 => 155 | 129 => 118 | 317 => 175 | 318 => 176 | 319 => 177 | 320 => 178 | 337 => 186 | 338 => 187 | n => n, fun | 3 => 3 | 9 => 9 | 2 => 2 | 4 => 4 | 171 => 198 | 0 => 0 | 53 => 170 | 37 => 30 | 5 => 5 | 173 => 200 | 212 => 223 | 51 => 132 | 20 => 20 | 213 => 224 | 46 => 141 | 232 => 231 | 233 => 232 | n => n, fun | 17 => 0 | 18 => 2 | 19 => 3 | n => n⟩
theorem Tryz.laysM171 : Go.Proofs.LaysM.n171 Tryz.prog Tryz.laysM171_ren := {
  mixed := by kernel_rfl
  f129 := Tryz.func118.trans (congrArg some (by kernel_rfl))
  f171 := Tryz.func54.trans (congrArg some (by kernel_rfl))
  f243 := Tryz.func91.trans (congrArg some (by kernel_rfl))
  f246 := Tryz.func122.trans (congrArg some (by kernel_rfl))
  f283 := Tryz.func152.trans (congrArg some (by kernel_rfl))
  f284 := Tryz.func153.trans (congrArg some (by kernel_rfl))
  f285 := Tryz.func154.trans (congrArg some (by kernel_rfl))
  f286 := Tryz.func155.trans (congrArg some (by kernel_rfl))
  f317 := Tryz.func175.trans (congrArg some (by kernel_rfl))
  f318 := Tryz.func176.trans (congrArg some (by kernel_rfl))
  f319 := Tryz.func177.trans (congrArg some (by kernel_rfl))
  f320 := Tryz.func178.trans (congrArg some (by kernel_rfl))
  f337 := Tryz.func186.trans (congrArg some (by kernel_rfl))
  f338 := Tryz.func187.trans (congrArg some (by kernel_rfl))
  t0 := Tryz.underlying0
  a0 := Tryz.isAgg0
  z0 := Tryz.sizeOf0
  v0 := Tryz.zeroValue0
  t2 := Tryz.underlying2
  a2 := Tryz.isAgg2
  z2 := Tryz.sizeOf2
  v2 := Tryz.zeroValue2
  t3 := Tryz.underlying3
  a3 := Tryz.isAgg3
  z3 := Tryz.sizeOf3
  v3 := Tryz.zeroValue3
  t4 := Tryz.underlying4
  a4 := Tryz.isAgg4
  z4 := Tryz.sizeOf4
  v4 := Tryz.zeroValue4
  t5 := Tryz.underlying5
  a5 := Tryz.isAgg5
  z5 := Tryz.sizeOf5
  v5 := Tryz.zeroValue5
  t9 := Tryz.underlying9
  a9 := Tryz.isAgg9
  z9 := Tryz.sizeOf9
  v9 := Tryz.zeroValue9
  t20 := Tryz.underlying20
  a20 := Tryz.isAgg20
  z20 := Tryz.sizeOf20
  v20 := Tryz.zeroValue20
  t37 := Tryz.underlying30
  a37 := Tryz.isAgg30
  z37 := Tryz.sizeOf30
  v37 := Tryz.zeroValue30
  t46 := Tryz.underlying141
  a46 := Tryz.isAgg141
  z46 := Tryz.sizeOf141
  v46 := Tryz.zeroValue141
  t51 := Tryz.underlying132
  a51 := Tryz.isAgg132
  z51 := Tryz.sizeOf132
  v51 := Tryz.zeroValue132
  t53 := Tryz.underlying170
  a53 := Tryz.isAgg170
  z53 := Tryz.sizeOf170
  v53 := Tryz.zeroValue170
  t171 := Tryz.underlying198
  a171 := Tryz.isAgg198
  z171 := Tryz.sizeOf198
  v171 := Tryz.zeroValue198
  t173 := Tryz.underlying200
  a173 := Tryz.isAgg200
  z173 := Tryz.sizeOf200
  v173 := Tryz.zeroValue200
  t212 := Tryz.underlying223
  a212 := Tryz.isAgg223
  z212 := Tryz.sizeOf223
  v212 := Tryz.zeroValue223
  t213 := Tryz.underlying224
  a213 := Tryz.isAgg224
  z213 := Tryz.sizeOf224
  t232 := Tryz.underlying231
  a232 := Tryz.isAgg231
  z232 := Tryz.sizeOf231
  v232 := Tryz.zeroValue231
  t233 := Tryz.underlying232
  a233 := Tryz.isAgg232
  z233 := Tryz.sizeOf232
  v233 := Tryz.zeroValue232
  g17 := by kernel_rfl
  g18 := by kernel_rfl
  g19 := by kernel_rfl
  i0 := by kernel_rfl
  i2 := by kernel_rfl
  i3 := by kernel_rfl
  i4 := by kernel_rfl
  i5 := by kernel_rfl
  i9 := by kernel_rfl
  i20 := by kernel_rfl
  i37 := by kernel_rfl
  i46 := by kernel_rfl
  i51 := by kernel_rfl
  i53 := by kernel_rfl
  i171 := by kernel_rfl
  i173 := by kernel_rfl
  i212 := by kernel_rfl
  i232 := by kernel_rfl
  i233 := by kernel_rfl
  m17 := by kernel_rfl
  m18 := by kernel_rfl
  m19 := by kernel_rfl }
open Go.RowKit Go.Sort Go.Lib in
theorem Tryz.strconv_Itoa (n : Int) (h0 : -9223372036854775808 ≤ n) (h1 : n ≤ 9223372036854775807) (w : World) (htab : Lib.TabIs Tryz.prog w Go.Proofs.YtnmlbjgnemmigaaGreatDoor.powName .u64 Lib.pow10Tab) :
    Calls Tryz.prog 54 #[.int .i64 n] w fun e w' => e = .returned (.string ⟨(Lib.itoa n).toArray⟩) ∧ ∃ k os, w' = grow (w.drewN k) os := Any.strconv_Itoa Tryz.laysM171 n h0 h1 w htab
def Tryz.lays189_ren : Go.Shelf.Ren := ⟨fun | 189 => 49 | 125 => 86 | 257 => 85 | 128 => 117 | 129 => 118 | 294 => 108 | 295 => 109 | 296 => 110 | 297 => 111 | 298 => 112 | 299 => 113 | 216 => 114 | 300 => 115 | 301 => 116 | 328 => 137 | 329 => 138 | 330 => 139 | 331 => 140 | 332 => 141 | 215 => 142 | 343 => 170 | n => n, fun | 28 => 45 | 3 => 3 | 46 => 141 | 0 => 0 | 51 => 132 | 53 => 170 | 4 => 4 | 183 => 162 | 182 => 161 | 131 => 94 | 5 => 5 | 9 => 9 | 218 => 186 | 222 => 190 | 228 => 216 | 229 => 217 | n => n, fun | n => n⟩
theorem Tryz.lays189 : Go.Proofs.Lays.n189 Tryz.prog Tryz.lays189_ren := {
  mixed := by kernel_rfl
  f125 := Tryz.func86.trans (congrArg some (by kernel_rfl))
  f128 := Tryz.func117.trans (congrArg some (by kernel_rfl))
  f129 := Tryz.func118.trans (congrArg some (by kernel_rfl))
  f189 := Tryz.func49.trans (congrArg some (by kernel_rfl))
  f215 := Tryz.func142.trans (congrArg some (by kernel_rfl))
  f216 := Tryz.func114.trans (congrArg some (by kernel_rfl))
  f257 := Tryz.func85.trans (congrArg some (by kernel_rfl))
  f294 := Tryz.func108.trans (congrArg some (by kernel_rfl))
  f295 := Tryz.func109.trans (congrArg some (by kernel_rfl))
  f296 := Tryz.func110.trans (congrArg some (by kernel_rfl))
  f297 := Tryz.func111.trans (congrArg some (by kernel_rfl))
  f298 := Tryz.func112.trans (congrArg some (by kernel_rfl))
  f299 := Tryz.func113.trans (congrArg some (by kernel_rfl))
  f300 := Tryz.func115.trans (congrArg some (by kernel_rfl))
  f301 := Tryz.func116.trans (congrArg some (by kernel_rfl))
  f328 := Tryz.func137.trans (congrArg some (by kernel_rfl))
  f329 := Tryz.func138.trans (congrArg some (by kernel_rfl))
  f330 := Tryz.func139.trans (congrArg some (by kernel_rfl))
  f331 := Tryz.func140.trans (congrArg some (by kernel_rfl))
  f332 := Tryz.func141.trans (congrArg some (by kernel_rfl))
  f343 := Tryz.func170.trans (congrArg some (by kernel_rfl))
  t0 := Tryz.underlying0
  a0 := Tryz.isAgg0
  z0 := Tryz.sizeOf0
  v0 := Tryz.zeroValue0
  t3 := Tryz.underlying3
  a3 := Tryz.isAgg3
  z3 := Tryz.sizeOf3
  v3 := Tryz.zeroValue3
  t4 := Tryz.underlying4
  a4 := Tryz.isAgg4
  z4 := Tryz.sizeOf4
  v4 := Tryz.zeroValue4
  t5 := Tryz.underlying5
  a5 := Tryz.isAgg5
  z5 := Tryz.sizeOf5
  v5 := Tryz.zeroValue5
  t9 := Tryz.underlying9
  a9 := Tryz.isAgg9
  z9 := Tryz.sizeOf9
  v9 := Tryz.zeroValue9
  t28 := Tryz.underlying45
  a28 := Tryz.isAgg45
  z28 := Tryz.sizeOf45
  v28 := Tryz.zeroValue45
  t46 := Tryz.underlying141
  a46 := Tryz.isAgg141
  z46 := Tryz.sizeOf141
  v46 := Tryz.zeroValue141
  t51 := Tryz.underlying132
  a51 := Tryz.isAgg132
  z51 := Tryz.sizeOf132
  v51 := Tryz.zeroValue132
  t53 := Tryz.underlying170
  a53 := Tryz.isAgg170
  z53 := Tryz.sizeOf170
  v53 := Tryz.zeroValue170
  t131 := Tryz.underlying94
  a131 := Tryz.isAgg94
  z131 := Tryz.sizeOf94
  v131 := Tryz.zeroValue94
  t182 := Tryz.underlying161
  a182 := Tryz.isAgg161
  z182 := Tryz.sizeOf161
  v182 := Tryz.zeroValue161
  t183 := Tryz.underlying162
  a183 := Tryz.isAgg162
  z183 := Tryz.sizeOf162
  v183 := Tryz.zeroValue162
  t218 := Tryz.underlying186
  a218 := Tryz.isAgg186
  z218 := Tryz.sizeOf186
  v218 := Tryz.zeroValue186
  t222 := Tryz.underlying190
  a222 := Tryz.isAgg190
  z222 := Tryz.sizeOf190
  v222 := Tryz.zeroValue190
  t228 := Tryz.underlying216
  a228 := Tryz.isAgg216
  z228 := Tryz.sizeOf216
  v228 := Tryz.zeroValue216
  t229 := Tryz.underlying217
  a229 := Tryz.isAgg217
  z229 := Tryz.sizeOf217
  v229 := Tryz.zeroValue217 }
open Go.Sort Go.RowKit in
theorem Tryz.slices_Sort_int (blk off cap : Nat) (zs : List Int) (w : World) (hH : Holds (Value.int .i64) w blk off zs.toArray) (hblk : blk < w.heap.size) (hsz : zs.length < 4611686018427387904) :
    Calls Tryz.prog 49 #[.slice (some ⟨blk, off, none⟩) zs.length cap] w fun e w' =>
      e = .returned (.tuple #[]) ∧ ∃ n os, w' = grow (putRow (Value.int .i64) (Sort.ahead w n) blk off (zs.mergeSort fun x y => decide (x ≤ y)).toArray) os := Any.slices_Sort_int Tryz.lays189 blk off cap zs w hH hblk hsz
def Tryz.lays105_ren : Go.Shelf.Ren := ⟨fun | 105 => 55 | 212 => 92 | 99 => 93 | 165 => 94 | 166 => 95 | 170 => 96 | 169 => 97 | 263 => 123 | 264 => 124 | 206 => 125 | 240 => 126 | 241 => 127 | 276 => 156 | 277 => 157 | n => n, fun | 9 => 9 | 3 => 3 | 4 => 4 | 20 => 20 | 0 => 0 | 46 => 141 | 109 => 144 | 5 => 5 | 72 => 149 | 76 => 152 | 51 => 132 | 146 => 174 | 53 => 170 | 148 => 176 | 70 => 147 | 37 => 30 | 75 => 151 | 127 => 178 | 164 => 202 | 80 => 77 | n => n, fun | n => n⟩
theorem Tryz.lays105 : Go.Proofs.Lays.n105 Tryz.prog Tryz.lays105_ren := {
  mixed := by kernel_rfl
  f99 := Tryz.func93.trans (congrArg some (by kernel_rfl))
  f105 := Tryz.func55.trans (congrArg some (by kernel_rfl))
  f165 := Tryz.func94.trans (congrArg some (by kernel_rfl))
  f166 := Tryz.func95.trans (congrArg some (by kernel_rfl))
  f169 := Tryz.func97.trans (congrArg some (by kernel_rfl))
  f170 := Tryz.func96.trans (congrArg some (by kernel_rfl))
  f206 := Tryz.func125.trans (congrArg some (by kernel_rfl))
  f212 := Tryz.func92.trans (congrArg some (by kernel_rfl))
  f240 := Tryz.func126.trans (congrArg some (by kernel_rfl))
  f241 := Tryz.func127.trans (congrArg some (by kernel_rfl))
  f263 := Tryz.func123.trans (congrArg some (by kernel_rfl))
  f264 := Tryz.func124.trans (congrArg some (by kernel_rfl))
  f276 := Tryz.func156.trans (congrArg some (by kernel_rfl))
  f277 := Tryz.func157.trans (congrArg some (by kernel_rfl))
  t0 := Tryz.underlying0
  a0 := Tryz.isAgg0
  z0 := Tryz.sizeOf0
  v0 := Tryz.zeroValue0
  t3 := Tryz.underlying3
  a3 := Tryz.isAgg3
  z3 := Tryz.sizeOf3
  v3 := Tryz.zeroValue3
  t4 := Tryz.underlying4
  a4 := Tryz.isAgg4
  z4 := Tryz.sizeOf4
  v4 := Tryz.zeroValue4
  t5 := Tryz.underlying5
  a5 := Tryz.isAgg5
  z5 := Tryz.sizeOf5
  v5 := Tryz.zeroValue5
  t9 := Tryz.underlying9
  a9 := Tryz.isAgg9
  z9 := Tryz.sizeOf9
  v9 := Tryz.zeroValue9
  t20 := Tryz.underlying20
  a20 := Tryz.isAgg20
  z20 := Tryz.sizeOf20
  v20 := Tryz.zeroValue20
  t37 := Tryz.underlying30
  a37 := Tryz.isAgg30
  z37 := Tryz.sizeOf30
  v37 := Tryz.zeroValue30
  t46 := Tryz.underlying141
  a46 := Tryz.isAgg141
  z46 := Tryz.sizeOf141
  v46 := Tryz.zeroValue141
  t51 := Tryz.underlying132
  a51 := Tryz.isAgg132
  z51 := Tryz.sizeOf132
  v51 := Tryz.zeroValue132
  t53 := Tryz.underlying170
  a53 := Tryz.isAgg170
  z53 := Tryz.sizeOf170
  v53 := Tryz.zeroValue170
  t70 := Tryz.underlying147
  a70 := Tryz.isAgg147
  z70 := Tryz.sizeOf147
  v70 := Tryz.zeroValue147
  t72 := Tryz.underlying149
  a72 := Tryz.isAgg149
  z72 := Tryz.sizeOf149
  v72 := Tryz.zeroValue149
  t75 := Tryz.underlying151
  a75 := Tryz.isAgg151
  z75 := Tryz.sizeOf151
  v75 := Tryz.zeroValue151
  t76 := Tryz.underlying152
  a76 := Tryz.isAgg152
  z76 := Tryz.sizeOf152
  v76 := Tryz.zeroValue152
  t109 := Tryz.underlying144
  a109 := Tryz.isAgg144
  z109 := Tryz.sizeOf144
  v109 := Tryz.zeroValue144
  t127 := Tryz.underlying178
  a127 := Tryz.isAgg178
  z127 := Tryz.sizeOf178
  v127 := Tryz.zeroValue178
  t146 := Tryz.underlying174
  a146 := Tryz.isAgg174
  z146 := Tryz.sizeOf174
  v146 := Tryz.zeroValue174
  t148 := Tryz.underlying176
  a148 := Tryz.isAgg176
  z148 := Tryz.sizeOf176
  v148 := Tryz.zeroValue176
  t164 := Tryz.underlying202
  a164 := Tryz.isAgg202
  z164 := Tryz.sizeOf202
  v164 := Tryz.zeroValue202 }
theorem Tryz.Builder_Extra_105 : Builder.Extra Tryz.prog Tryz.lays105_ren := {
  sizeBuilder := by kernel_rfl
  liesBuilder := by kernel_rfl
  t5 := Tryz.underlying5
  a5 := Tryz.isAgg5
  z5 := Tryz.sizeOf5
  v5 := Tryz.zeroValue5
  infoByte := by kernel_rfl
  cellsByte := by kernel_rfl
  sizeByte := by kernel_rfl
  neB5 := by decide }
open Go.RowKit Go.Lib in
theorem Tryz.strings_Repeat (s : ByteArray) (c : Nat) (w : World) (hc : c ≤ 9223372036854775807) (hlen : s.size * c ≤ 140737488355328) :
    Calls Tryz.prog 55 #[.string s, .int .i64 c] w fun e w' => e = .returned (.string ⟨(Lib.repeatL s.data.toList c).toArray⟩) ∧ Below w.heap.size w w' := Any.strings_Repeat Tryz.lays105 Tryz.Builder_Extra_105 s c w hc hlen
def Tryz.lays193_ren : Go.Shelf.Ren := ⟨fun | 193 => 64 | n => n, fun | 31 => 47 | 9 => 9 | 4 => 4 | 3 => 3 | 0 => 0 | n => n, fun | n => n⟩
theorem Tryz.lays193 : Go.Proofs.Lays.n193 Tryz.prog Tryz.lays193_ren := {
  mixed := by kernel_rfl
  f193 := Tryz.func64.trans (congrArg some (by kernel_rfl))
  t0 := Tryz.underlying0
  a0 := Tryz.isAgg0
  z0 := Tryz.sizeOf0
  v0 := Tryz.zeroValue0
  t3 := Tryz.underlying3
  a3 := Tryz.isAgg3
  z3 := Tryz.sizeOf3
  v3 := Tryz.zeroValue3
  t4 := Tryz.underlying4
  a4 := Tryz.isAgg4
  z4 := Tryz.sizeOf4
  v4 := Tryz.zeroValue4
  t9 := Tryz.underlying9
  a9 := Tryz.isAgg9
  z9 := Tryz.sizeOf9
  v9 := Tryz.zeroValue9
  t31 := Tryz.underlying47
  a31 := Tryz.isAgg47
  z31 := Tryz.sizeOf47
  v31 := Tryz.zeroValue47 }
open Go.RowKit Go.Lib in
theorem Tryz.slices_Equal_string (b1 o1 n c b2 o2 m d : Nat) (xs ys : List ByteArray) (w : World) (hx : n ≤ xs.length) (hy : m ≤ ys.length) (hbig : n ≤ 9223372036854775807) (hbig2 : m ≤ 9223372036854775807) (hc1 : ∀ j, j < xs.length → w.cell? ⟨b1, o1 + j, none⟩ = some (.string (xs.getD j ByteArray.empty))) (hc2 : ∀ j, j < ys.length → w.cell? ⟨b2, o2 + j, none⟩ = some (.string (ys.getD j ByteArray.empty))) :
    Calls Tryz.prog 64 #[.slice (some ⟨b1, o1, none⟩) n c, .slice (some ⟨b2, o2, none⟩) m d] w fun e w' => e = .returned (.bool (decide (xs.take n = ys.take m))) ∧ ∃ q, w' = w.drewN q := Any.slices_Equal_string Tryz.lays193 b1 o1 n c b2 o2 m d xs ys w hx hy hbig hbig2 hc1 hc2
open Go.RowKit Go.Lib in
theorem Tryz.slices_Equal_string_empty (a1 a2 : Option Addr) (c m d : Nat) (w : World) (hbig2 : m ≤ 9223372036854775807) :
    Calls Tryz.prog 64 #[.slice a1 0 c, .slice a2 m d] w fun e w' => e = .returned (.bool (decide (m = 0))) ∧ w' = w := Any.slices_Equal_string_empty Tryz.lays193 a1 a2 c m d w hbig2
def Tryz.laysNm220_ren : Go.Shelf.Ren := ⟨fun | 20 => 51 | n => n, fun | 22 => 45 | 3 => 3 | 4 => 4 | 0 => 0 | n => n, fun | n => n⟩
theorem Tryz.laysNm220 : Go.Proofs.Lays2.n20 Tryz.prog Tryz.laysNm220_ren := {
  mixed := by kernel_rfl
  f20 := Tryz.func51.trans (congrArg some (by kernel_rfl))
  t0 := Tryz.underlying0
  a0 := Tryz.isAgg0
  z0 := Tryz.sizeOf0
  v0 := Tryz.zeroValue0
  t3 := Tryz.underlying3
  a3 := Tryz.isAgg3
  z3 := Tryz.sizeOf3
  v3 := Tryz.zeroValue3
  t4 := Tryz.underlying4
  a4 := Tryz.isAgg4
  z4 := Tryz.sizeOf4
  v4 := Tryz.zeroValue4
  t22 := Tryz.underlying45
  a22 := Tryz.isAgg45
  z22 := Tryz.sizeOf45
  v22 := Tryz.zeroValue45
  i3 := by kernel_rfl }
open Go.RowKit Go.Lib Go.Sort in
theorem Tryz.slices_Compact_int (blk off cap : Nat) (zs : List Int) (w : World) (hH : Holds (Value.int .i64) w blk off zs.toArray) (hsz : zs.length ≤ 9223372036854775807) (hcap : zs.length ≤ cap) :
    Calls Tryz.prog 51 #[.slice (some ⟨blk, off, none⟩) zs.length cap] w fun e w' => e = .returned (.slice (some ⟨blk, off, none⟩) (Lib.compact zs).length cap) ∧ ∃ q, w' = putRow (Value.int .i64) (Sort.ahead w q) blk off (Lib.compact zs ++ List.replicate (zs.length - (Lib.compact zs).length) 0).toArray := Any.slices_Compact_int Tryz.laysNm220 blk off cap zs w hH hsz hcap
open Go.RowKit Go.Lib Go.Sort in
theorem Tryz.slices_Compact_int_empty (a : Option Addr) (cap : Nat) (w : World) :
    Calls Tryz.prog 51 #[.slice a 0 cap] w fun e w' => e = .returned (.slice a 0 cap) ∧ w' = w := Any.slices_Compact_int_empty Tryz.laysNm220 a cap w
def Tryz.laysNm231_ren : Go.Shelf.Ren := ⟨fun | 31 => 114 | 37 => 142 | n => n, fun | 3 => 3 | 4 => 4 | n => n, fun | n => n⟩
theorem Tryz.laysNm231 : Go.Proofs.Lays2.n31 Tryz.prog Tryz.laysNm231_ren := {
  mixed := by kernel_rfl
  f31 := Tryz.func114.trans (congrArg some (by kernel_rfl))
  f37 := Tryz.func142.trans (congrArg some (by kernel_rfl))
  t3 := Tryz.underlying3
  a3 := Tryz.isAgg3
  z3 := Tryz.sizeOf3
  v3 := Tryz.zeroValue3
  t4 := Tryz.underlying4
  a4 := Tryz.isAgg4
  z4 := Tryz.sizeOf4
  v4 := Tryz.zeroValue4 }
open Go.RowKit Go.Lib in
theorem Tryz.cmp_Less_int2 (x y : Int) (w : World) :
    Calls Tryz.prog 114 #[.int .i64 x, .int .i64 y] w fun e w' => e = .returned (.bool (decide (x < y))) ∧ w' = w := Any.cmp_Less_int2 Tryz.laysNm231 x y w
open Go.RowKit Go.Sort in
theorem Tryz.slices_Sort_int_none (p : Option Addr) (cap : Nat) (w : World) :
    Calls Tryz.prog 49 #[.slice p 0 cap] w fun e w' => e = .returned (.tuple #[]) ∧ w' = w := Any.slices_Sort_int_none Tryz.lays189 p cap w
end Go.Proofs
