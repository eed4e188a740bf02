/- The contracts of Go's library that these proofs use, laid over this translation by the kit's shelf. -/
import Derived.Shelf.Strings.Builder1
import Derived.Shelf.Strings.Builder2
import Derived.Shelf.Strings.Trim
import Derived.Shelf.Small.Utf8
import Derived.Shelf.Small.Bits
import Derived.Shelf.Small.Strs
import Derived.Shelf.Small.Wraps
import Derived.Shelf.Strings.BuilderF
import Derived.Shelf.Strings.BuilderK
import Derived.Shelf.Strings.Builder2Cap
import Derived.Shelf.Strconv.Itoa0
import Derived.Shelf.Strconv.Itoa1
import Derived.Shelf.LaysM
import Derived.Shelf.Strconv.Itoa2
import Derived.Shelf.Strconv.Itoa3
import Derived.Shelf.Strings.Search1
import Derived.Shelf.Sort.Plain
import Derived.Shelf.Strings.Prefix
import Derived.Shelf.Unicode.Decode
import Derived.Shelf.Strings.Runes
import Derived.Shelf.Strings.AsciiSet
import Derived.Shelf.Bits.Mul64
import Derived.Shelf.Strings.Repeat
import Derived.Shelf.Unicode.DecodeSlow
import Derived.Shelf.Unicode.DecodeAny
import Derived.Shelf.Unicode.DecodeLast
import Derived.Shelf.Strings.BuilderCap
import Derived.Shelf.Slices.Turned
import Derived.Shelf.Slices.Equal
import Derived.Ground.Names2Prog
import Derived.Shelf.Slices.Clone
import Derived.Shelf.Slices.CompactI
import Derived.Shelf.Slices.SearchI
import Derived.Shelf.Slices.Cells
import Derived.Shelf.Slices.In.SortNone
import Derived.Shelf.Slices.Empties2
import Derived.Ground.SlgnProg
import Derived.Shelf.SlicesE.Clone
import Derived.Test.YtgpalgcnhjfblaaGreatDoorProg
import Derived.Test.YtgpalgcnhjfblaaGreatDoorRows
/-- The name of the table of powers, as the given row lists it. -/
def Go.Proofs.YtgpalgcnhjfblaaGreatDoor.powName : String := Go.Proofs.YtgpalgcnhjfblaaGreatDoor.Rows.walNilRow.named.getD 2 (String.ofList [])
namespace Go.Proofs
open Go.Shelf
def Tryz.lays160_ren : Go.Shelf.Ren := ⟨fun | 160 => 197 | 232 => 228 | 231 => 227 | 227 => 229 | 234 => 231 | 233 => 230 | 236 => 233 | 235 => 232 | 228 => 247 | 271 => 250 | 151 => 249 | 197 => 248 | 120 => 258 | 152 => 257 | 260 => 256 | 137 => 200 | 119 => 259 | 224 => 260 | 225 => 261 | 217 => 235 | 266 => 251 | n => n, fun | 9 => 9 | 4 => 4 | 3 => 3 | 5 => 5 | 117 => 271 | 116 => 270 | 0 => 0 | 124 => 274 | 21 => 21 | 105 => 288 | 46 => 198 | 119 => 296 | 139 => 299 | 138 => 298 | n => n, fun | 3 => 4 | 4 => 5 | n => n⟩
theorem Tryz.lays160 : Go.Proofs.Lays.n160 Tryz.prog Tryz.lays160_ren := {
  mixed := by kernel_rfl
  f119 := Tryz.func259.trans (congrArg some (by kernel_rfl))
  f120 := Tryz.func258.trans (congrArg some (by kernel_rfl))
  f137 := Tryz.func200.trans (congrArg some (by kernel_rfl))
  f151 := Tryz.func249.trans (congrArg some (by kernel_rfl))
  f152 := Tryz.func257.trans (congrArg some (by kernel_rfl))
  f160 := Tryz.func197.trans (congrArg some (by kernel_rfl))
  f197 := Tryz.func248.trans (congrArg some (by kernel_rfl))
  f217 := Tryz.func235.trans (congrArg some (by kernel_rfl))
  f224 := Tryz.func260.trans (congrArg some (by kernel_rfl))
  f225 := Tryz.func261.trans (congrArg some (by kernel_rfl))
  f227 := Tryz.func229.trans (congrArg some (by kernel_rfl))
  f228 := Tryz.func247.trans (congrArg some (by kernel_rfl))
  f231 := Tryz.func227.trans (congrArg some (by kernel_rfl))
  f232 := Tryz.func228.trans (congrArg some (by kernel_rfl))
  f233 := Tryz.func230.trans (congrArg some (by kernel_rfl))
  f234 := Tryz.func231.trans (congrArg some (by kernel_rfl))
  f235 := Tryz.func232.trans (congrArg some (by kernel_rfl))
  f236 := Tryz.func233.trans (congrArg some (by kernel_rfl))
  f260 := Tryz.func256.trans (congrArg some (by kernel_rfl))
  f266 := Tryz.func251.trans (congrArg some (by kernel_rfl))
  f271 := Tryz.func250.trans (congrArg some (by kernel_rfl))
  t0 := Tryz.underlying0
  a0 := Tryz.isAgg0
  z0 := Tryz.sizeOf0
  v0 := Tryz.zeroValue0
  t3 := Tryz.underlying3
  a3 := Tryz.isAgg3
  z3 := Tryz.sizeOf3
  v3 := Tryz.zeroValue3
  t4 := Tryz.underlying4
  a4 := Tryz.isAgg4
  z4 := Tryz.sizeOf4
  v4 := Tryz.zeroValue4
  t5 := Tryz.underlying5
  a5 := Tryz.isAgg5
  z5 := Tryz.sizeOf5
  v5 := Tryz.zeroValue5
  t9 := Tryz.underlying9
  a9 := Tryz.isAgg9
  z9 := Tryz.sizeOf9
  v9 := Tryz.zeroValue9
  t21 := Tryz.underlying21
  a21 := Tryz.isAgg21
  z21 := Tryz.sizeOf21
  v21 := Tryz.zeroValue21
  t46 := Tryz.underlying198
  a46 := Tryz.isAgg198
  z46 := Tryz.sizeOf198
  v46 := Tryz.zeroValue198
  t105 := Tryz.underlying288
  a105 := Tryz.isAgg288
  z105 := Tryz.sizeOf288
  v105 := Tryz.zeroValue288
  t116 := Tryz.underlying270
  a116 := Tryz.isAgg270
  z116 := Tryz.sizeOf270
  t117 := Tryz.underlying271
  a117 := Tryz.isAgg271
  z117 := Tryz.sizeOf271
  v117 := Tryz.zeroValue271
  t119 := Tryz.underlying296
  a119 := Tryz.isAgg296
  z119 := Tryz.sizeOf296
  t124 := Tryz.underlying274
  a124 := Tryz.isAgg274
  z124 := Tryz.sizeOf274
  v124 := Tryz.zeroValue274
  t138 := Tryz.underlying298
  a138 := Tryz.isAgg298
  z138 := Tryz.sizeOf298
  v138 := Tryz.zeroValue298
  t139 := Tryz.underlying299
  a139 := Tryz.isAgg299
  z139 := Tryz.sizeOf299
  v139 := Tryz.zeroValue299
  g3 := by kernel_rfl
  g4 := by kernel_rfl }
open Go.RowKit in
theorem Tryz.strings_Trim_one (s : ByteArray) (c : UInt8) (hc : c.toNat < 128) (w : World) (hs : s.size ≤ 9223372036854775807) :
    Calls Tryz.prog 197 #[.string s, .string ⟨#[c]⟩] w fun e w' => e = .returned (.string ⟨(Lib.trimB s.data.toList c).toArray⟩) ∧ (w' = w ∨ w' = w.drew) := Any.strings_Trim_one Tryz.lays160 s c hc w hs
def Tryz.lays137_ren : Go.Shelf.Ren := ⟨fun | 137 => 200 | 217 => 235 | 266 => 251 | n => n, fun | 9 => 9 | 5 => 5 | 3 => 3 | n => n, fun | n => n⟩
theorem Tryz.lays137 : Go.Proofs.Lays.n137 Tryz.prog Tryz.lays137_ren := {
  mixed := by kernel_rfl
  f137 := Tryz.func200.trans (congrArg some (by kernel_rfl))
  f217 := Tryz.func235.trans (congrArg some (by kernel_rfl))
  f266 := Tryz.func251.trans (congrArg some (by kernel_rfl))
  t3 := Tryz.underlying3
  a3 := Tryz.isAgg3
  z3 := Tryz.sizeOf3
  v3 := Tryz.zeroValue3
  t5 := Tryz.underlying5
  a5 := Tryz.isAgg5
  z5 := Tryz.sizeOf5
  v5 := Tryz.zeroValue5
  t9 := Tryz.underlying9
  a9 := Tryz.isAgg9
  z9 := Tryz.sizeOf9
  v9 := Tryz.zeroValue9 }
open Go.RowKit in
theorem Tryz.strings_IndexByte (s : ByteArray) (c : Int) (w : World) :
    Calls Tryz.prog 200 #[.string s, .int .u8 c] w fun e w' => e = .returned (.int .i64 (Lib.indexByte s.data.toList c.toNat.toUInt8)) ∧ w' = w := Any.strings_IndexByte Tryz.lays137 s c w
def Tryz.lays103_ren : Go.Shelf.Ren := ⟨fun | 103 => 148 | 210 => 186 | 206 => 192 | n => n, fun | 9 => 9 | 4 => 4 | 24 => 53 | 3 => 3 | n => n, fun | n => n⟩
theorem Tryz.lays103 : Go.Proofs.Lays.n103 Tryz.prog Tryz.lays103_ren := {
  mixed := by kernel_rfl
  f103 := Tryz.func148.trans (congrArg some (by kernel_rfl))
  f206 := Tryz.func192.trans (congrArg some (by kernel_rfl))
  f210 := Tryz.func186.trans (congrArg some (by kernel_rfl))
  t3 := Tryz.underlying3
  a3 := Tryz.isAgg3
  z3 := Tryz.sizeOf3
  v3 := Tryz.zeroValue3
  t4 := Tryz.underlying4
  a4 := Tryz.isAgg4
  z4 := Tryz.sizeOf4
  v4 := Tryz.zeroValue4
  t9 := Tryz.underlying9
  a9 := Tryz.isAgg9
  z9 := Tryz.sizeOf9
  v9 := Tryz.zeroValue9
  t24 := Tryz.underlying53
  a24 := Tryz.isAgg53
  z24 := Tryz.sizeOf53
  v24 := Tryz.zeroValue53 }
open Go.RowKit in
theorem Tryz.strings_CutPrefix (s p : ByteArray) (w : World) :
    Calls Tryz.prog 148 #[.string s, .string p] w fun e w' => e = .returned (.tuple #[.string ⟨(Lib.trimPrefix s.data.toList p.data.toList).toArray⟩, .bool (Lib.hasPrefix s.data.toList p.data.toList)]) ∧ w' = w := Any.strings_CutPrefix Tryz.lays103 s p w
def Tryz.laysM171_ren : Go.Shelf.Ren := ⟨fun | 171 => 90 | 243 => 152 | 246 => 189 | 283 => 221 | 284 => 222 | 285 => 223 | 286 => 224 | 129 => 185 | 317 => 243 | 318 => 244 | 319 => 245 | 320 => 246 | 337 => 254 | 338 => 255 | n => n, fun | 3 => 3 | 9 => 9 | 2 => 2 | 4 => 4 | 171 => 261 | 0 => 0 | 53 => 232 | 37 => 22 | 5 => 5 | 173 => 263 | 212 => 286 | 51 => 186 | 20 => 20 | 213 => 287 | 46 => 198 | 232 => 294 | 233 => 295 | n => n, fun | 17 => 0 | 18 => 2 | 19 => 3 | n => n⟩
theorem Tryz.laysM171 : Go.Proofs.LaysM.n171 Tryz.prog Tryz.laysM171_ren := {
  mixed := by kernel_rfl
  f129 := Tryz.func185.trans (congrArg some (by kernel_rfl))
  f171 := Tryz.func90.trans (congrArg some (by kernel_rfl))
  f243 := Tryz.func152.trans (congrArg some (by kernel_rfl))
  f246 := Tryz.func189.trans (congrArg some (by kernel_rfl))
  f283 := Tryz.func221.trans (congrArg some (by kernel_rfl))
  f284 := Tryz.func222.trans (congrArg some (by kernel_rfl))
  f285 := Tryz.func223.trans (congrArg some (by kernel_rfl))
  f286 := Tryz.func224.trans (congrArg some (by kernel_rfl))
  f317 := Tryz.func243.trans (congrArg some (by kernel_rfl))
  f318 := Tryz.func244.trans (congrArg some (by kernel_rfl))
  f319 := Tryz.func245.trans (congrArg some (by kernel_rfl))
  f320 := Tryz.func246.trans (congrArg some (by kernel_rfl))
  f337 := Tryz.func254.trans (congrArg some (by kernel_rfl))
  f338 := Tryz.func255.trans (congrArg some (by kernel_rfl))
  t0 := Tryz.underlying0
  a0 := Tryz.isAgg0
  z0 := Tryz.sizeOf0
  v0 := Tryz.zeroValue0
  t2 := Tryz.underlying2
  a2 := Tryz.isAgg2
  z2 := Tryz.sizeOf2
  v2 := Tryz.zeroValue2
  t3 := Tryz.underlying3
  a3 := Tryz.isAgg3
  z3 := Tryz.sizeOf3
  v3 := Tryz.zeroValue3
  t4 := Tryz.underlying4
  a4 := Tryz.isAgg4
  z4 := Tryz.sizeOf4
  v4 := Tryz.zeroValue4
  t5 := Tryz.underlying5
  a5 := Tryz.isAgg5
  z5 := Tryz.sizeOf5
  v5 := Tryz.zeroValue5
  t9 := Tryz.underlying9
  a9 := Tryz.isAgg9
  z9 := Tryz.sizeOf9
  v9 := Tryz.zeroValue9
  t20 := Tryz.underlying20
  a20 := Tryz.isAgg20
  z20 := Tryz.sizeOf20
  v20 := Tryz.zeroValue20
  t37 := Tryz.underlying22
  a37 := Tryz.isAgg22
  z37 := Tryz.sizeOf22
  v37 := Tryz.zeroValue22
  t46 := Tryz.underlying198
  a46 := Tryz.isAgg198
  z46 := Tryz.sizeOf198
  v46 := Tryz.zeroValue198
  t51 := Tryz.underlying186
  a51 := Tryz.isAgg186
  z51 := Tryz.sizeOf186
  v51 := Tryz.zeroValue186
  t53 := Tryz.underlying232
  a53 := Tryz.isAgg232
  z53 := Tryz.sizeOf232
  v53 := Tryz.zeroValue232
  t171 := Tryz.underlying261
  a171 := Tryz.isAgg261
  z171 := Tryz.sizeOf261
  v171 := Tryz.zeroValue261
  t173 := Tryz.underlying263
  a173 := Tryz.isAgg263
  z173 := Tryz.sizeOf263
  v173 := Tryz.zeroValue263
  t212 := Tryz.underlying286
  a212 := Tryz.isAgg286
  z212 := Tryz.sizeOf286
  v212 := Tryz.zeroValue286
  t213 := Tryz.underlying287
  a213 := Tryz.isAgg287
  z213 := Tryz.sizeOf287
  t232 := Tryz.underlying294
  a232 := Tryz.isAgg294
  z232 := Tryz.sizeOf294
  v232 := Tryz.zeroValue294
  t233 := Tryz.underlying295
  a233 := Tryz.isAgg295
  z233 := Tryz.sizeOf295
  v233 := Tryz.zeroValue295
  g17 := by kernel_rfl
  g18 := by kernel_rfl
  g19 := by kernel_rfl
  i0 := by kernel_rfl
  i2 := by kernel_rfl
  i3 := by kernel_rfl
  i4 := by kernel_rfl
  i5 := by kernel_rfl
  i9 := by kernel_rfl
  i20 := by kernel_rfl
  i37 := by kernel_rfl
  i46 := by kernel_rfl
  i51 := by kernel_rfl
  i53 := by kernel_rfl
  i171 := by kernel_rfl
  i173 := by kernel_rfl
  i212 := by kernel_rfl
  i232 := by kernel_rfl
  i233 := by kernel_rfl
  m17 := by kernel_rfl
  m18 := by kernel_rfl
  m19 := by kernel_rfl }
open Go.RowKit Go.Sort Go.Lib in
theorem Tryz.strconv_Itoa (n : Int) (h0 : -9223372036854775808 ≤ n) (h1 : n ≤ 9223372036854775807) (w : World) (htab : Lib.TabIs Tryz.prog w Go.Proofs.YtgpalgcnhjfblaaGreatDoor.powName .u64 Lib.pow10Tab) :
    Calls Tryz.prog 90 #[.int .i64 n] w fun e w' => e = .returned (.string ⟨(Lib.itoa n).toArray⟩) ∧ ∃ k os, w' = grow (w.drewN k) os := Any.strconv_Itoa Tryz.laysM171 n h0 h1 w htab
def Tryz.lays189_ren : Go.Shelf.Ren := ⟨fun | 189 => 85 | 125 => 147 | 257 => 146 | 128 => 184 | 129 => 185 | 294 => 175 | 295 => 176 | 296 => 177 | 297 => 178 | 298 => 179 | 299 => 180 | 216 => 181 | 300 => 182 | 301 => 183 | 328 => 206 | 329 => 207 | 330 => 208 | 331 => 209 | 332 => 210 | 215 => 211 | 343 => 238 | n => n, fun | 28 => 48 | 3 => 3 | 46 => 198 | 0 => 0 | 51 => 186 | 53 => 232 | 4 => 4 | 183 => 224 | 182 => 223 | 131 => 140 | 5 => 5 | 9 => 9 | 218 => 249 | 222 => 253 | 228 => 279 | 229 => 280 | n => n, fun | n => n⟩
theorem Tryz.lays189 : Go.Proofs.Lays.n189 Tryz.prog Tryz.lays189_ren := {
  mixed := by kernel_rfl
  f125 := Tryz.func147.trans (congrArg some (by kernel_rfl))
  f128 := Tryz.func184.trans (congrArg some (by kernel_rfl))
  f129 := Tryz.func185.trans (congrArg some (by kernel_rfl))
  f189 := Tryz.func85.trans (congrArg some (by kernel_rfl))
  f215 := Tryz.func211.trans (congrArg some (by kernel_rfl))
  f216 := Tryz.func181.trans (congrArg some (by kernel_rfl))
  f257 := Tryz.func146.trans (congrArg some (by kernel_rfl))
  f294 := Tryz.func175.trans (congrArg some (by kernel_rfl))
  f295 := Tryz.func176.trans (congrArg some (by kernel_rfl))
  f296 := Tryz.func177.trans (congrArg some (by kernel_rfl))
  f297 := Tryz.func178.trans (congrArg some (by kernel_rfl))
  f298 := Tryz.func179.trans (congrArg some (by kernel_rfl))
  f299 := Tryz.func180.trans (congrArg some (by kernel_rfl))
  f300 := Tryz.func182.trans (congrArg some (by kernel_rfl))
  f301 := Tryz.func183.trans (congrArg some (by kernel_rfl))
  f328 := Tryz.func206.trans (congrArg some (by kernel_rfl))
  f329 := Tryz.func207.trans (congrArg some (by kernel_rfl))
  f330 := Tryz.func208.trans (congrArg some (by kernel_rfl))
  f331 := Tryz.func209.trans (congrArg some (by kernel_rfl))
  f332 := Tryz.func210.trans (congrArg some (by kernel_rfl))
  f343 := Tryz.func238.trans (congrArg some (by kernel_rfl))
  t0 := Tryz.underlying0
  a0 := Tryz.isAgg0
  z0 := Tryz.sizeOf0
  v0 := Tryz.zeroValue0
  t3 := Tryz.underlying3
  a3 := Tryz.isAgg3
  z3 := Tryz.sizeOf3
  v3 := Tryz.zeroValue3
  t4 := Tryz.underlying4
  a4 := Tryz.isAgg4
  z4 := Tryz.sizeOf4
  v4 := Tryz.zeroValue4
  t5 := Tryz.underlying5
  a5 := Tryz.isAgg5
  z5 := Tryz.sizeOf5
  v5 := Tryz.zeroValue5
  t9 := Tryz.underlying9
  a9 := Tryz.isAgg9
  z9 := Tryz.sizeOf9
  v9 := Tryz.zeroValue9
  t28 := Tryz.underlying48
  a28 := Tryz.isAgg48
  z28 := Tryz.sizeOf48
  v28 := Tryz.zeroValue48
  t46 := Tryz.underlying198
  a46 := Tryz.isAgg198
  z46 := Tryz.sizeOf198
  v46 := Tryz.zeroValue198
  t51 := Tryz.underlying186
  a51 := Tryz.isAgg186
  z51 := Tryz.sizeOf186
  v51 := Tryz.zeroValue186
  t53 := Tryz.underlying232
  a53 := Tryz.isAgg232
  z53 := Tryz.sizeOf232
  v53 := Tryz.zeroValue232
  t131 := Tryz.underlying140
  a131 := Tryz.isAgg140
  z131 := Tryz.sizeOf140
  v131 := Tryz.zeroValue140
  t182 := Tryz.underlying223
  a182 := Tryz.isAgg223
  z182 := Tryz.sizeOf223
  v182 := Tryz.zeroValue223
  t183 := Tryz.underlying224
  a183 := Tryz.isAgg224
  z183 := Tryz.sizeOf224
  v183 := Tryz.zeroValue224
  t218 := Tryz.underlying249
  a218 := Tryz.isAgg249
  z218 := Tryz.sizeOf249
  v218 := Tryz.zeroValue249
  t222 := Tryz.underlying253
  a222 := Tryz.isAgg253
  z222 := Tryz.sizeOf253
  v222 := Tryz.zeroValue253
  t228 := Tryz.underlying279
  a228 := Tryz.isAgg279
  z228 := Tryz.sizeOf279
  v228 := Tryz.zeroValue279
  t229 := Tryz.underlying280
  a229 := Tryz.isAgg280
  z229 := Tryz.sizeOf280
  v229 := Tryz.zeroValue280 }
open Go.Sort Go.RowKit in
theorem Tryz.slices_Sort_int (blk off cap : Nat) (zs : List Int) (w : World) (hH : Holds (Value.int .i64) w blk off zs.toArray) (hblk : blk < w.heap.size) (hsz : zs.length < 4611686018427387904) :
    Calls Tryz.prog 85 #[.slice (some ⟨blk, off, none⟩) zs.length cap] w fun e w' =>
      e = .returned (.tuple #[]) ∧ ∃ n os, w' = grow (putRow (Value.int .i64) (Sort.ahead w n) blk off (zs.mergeSort fun x y => decide (x ≤ y)).toArray) os := Any.slices_Sort_int Tryz.lays189 blk off cap zs w hH hblk hsz
def Tryz.lays105_ren : Go.Shelf.Ren := ⟨fun | 105 => 91 | 212 => 153 | 99 => 154 | 165 => 155 | 166 => 156 | 170 => 157 | 169 => 158 | 263 => 190 | 264 => 191 | 206 => 192 | 240 => 193 | 241 => 194 | 276 => 225 | 277 => 226 | n => n, fun | 9 => 9 | 3 => 3 | 4 => 4 | 20 => 20 | 0 => 0 | 46 => 198 | 109 => 201 | 5 => 5 | 72 => 206 | 76 => 209 | 51 => 186 | 146 => 236 | 53 => 232 | 148 => 238 | 70 => 204 | 37 => 22 | 75 => 208 | 127 => 240 | 164 => 265 | 80 => 119 | n => n, fun | n => n⟩
theorem Tryz.lays105 : Go.Proofs.Lays.n105 Tryz.prog Tryz.lays105_ren := {
  mixed := by kernel_rfl
  f99 := Tryz.func154.trans (congrArg some (by kernel_rfl))
  f105 := Tryz.func91.trans (congrArg some (by kernel_rfl))
  f165 := Tryz.func155.trans (congrArg some (by kernel_rfl))
  f166 := Tryz.func156.trans (congrArg some (by kernel_rfl))
  f169 := Tryz.func158.trans (congrArg some (by kernel_rfl))
  f170 := Tryz.func157.trans (congrArg some (by kernel_rfl))
  f206 := Tryz.func192.trans (congrArg some (by kernel_rfl))
  f212 := Tryz.func153.trans (congrArg some (by kernel_rfl))
  f240 := Tryz.func193.trans (congrArg some (by kernel_rfl))
  f241 := Tryz.func194.trans (congrArg some (by kernel_rfl))
  f263 := Tryz.func190.trans (congrArg some (by kernel_rfl))
  f264 := Tryz.func191.trans (congrArg some (by kernel_rfl))
  f276 := Tryz.func225.trans (congrArg some (by kernel_rfl))
  f277 := Tryz.func226.trans (congrArg some (by kernel_rfl))
  t0 := Tryz.underlying0
  a0 := Tryz.isAgg0
  z0 := Tryz.sizeOf0
  v0 := Tryz.zeroValue0
  t3 := Tryz.underlying3
  a3 := Tryz.isAgg3
  z3 := Tryz.sizeOf3
  v3 := Tryz.zeroValue3
  t4 := Tryz.underlying4
  a4 := Tryz.isAgg4
  z4 := Tryz.sizeOf4
  v4 := Tryz.zeroValue4
  t5 := Tryz.underlying5
  a5 := Tryz.isAgg5
  z5 := Tryz.sizeOf5
  v5 := Tryz.zeroValue5
  t9 := Tryz.underlying9
  a9 := Tryz.isAgg9
  z9 := Tryz.sizeOf9
  v9 := Tryz.zeroValue9
  t20 := Tryz.underlying20
  a20 := Tryz.isAgg20
  z20 := Tryz.sizeOf20
  v20 := Tryz.zeroValue20
  t37 := Tryz.underlying22
  a37 := Tryz.isAgg22
  z37 := Tryz.sizeOf22
  v37 := Tryz.zeroValue22
  t46 := Tryz.underlying198
  a46 := Tryz.isAgg198
  z46 := Tryz.sizeOf198
  v46 := Tryz.zeroValue198
  t51 := Tryz.underlying186
  a51 := Tryz.isAgg186
  z51 := Tryz.sizeOf186
  v51 := Tryz.zeroValue186
  t53 := Tryz.underlying232
  a53 := Tryz.isAgg232
  z53 := Tryz.sizeOf232
  v53 := Tryz.zeroValue232
  t70 := Tryz.underlying204
  a70 := Tryz.isAgg204
  z70 := Tryz.sizeOf204
  v70 := Tryz.zeroValue204
  t72 := Tryz.underlying206
  a72 := Tryz.isAgg206
  z72 := Tryz.sizeOf206
  v72 := Tryz.zeroValue206
  t75 := Tryz.underlying208
  a75 := Tryz.isAgg208
  z75 := Tryz.sizeOf208
  v75 := Tryz.zeroValue208
  t76 := Tryz.underlying209
  a76 := Tryz.isAgg209
  z76 := Tryz.sizeOf209
  v76 := Tryz.zeroValue209
  t109 := Tryz.underlying201
  a109 := Tryz.isAgg201
  z109 := Tryz.sizeOf201
  v109 := Tryz.zeroValue201
  t127 := Tryz.underlying240
  a127 := Tryz.isAgg240
  z127 := Tryz.sizeOf240
  v127 := Tryz.zeroValue240
  t146 := Tryz.underlying236
  a146 := Tryz.isAgg236
  z146 := Tryz.sizeOf236
  v146 := Tryz.zeroValue236
  t148 := Tryz.underlying238
  a148 := Tryz.isAgg238
  z148 := Tryz.sizeOf238
  v148 := Tryz.zeroValue238
  t164 := Tryz.underlying265
  a164 := Tryz.isAgg265
  z164 := Tryz.sizeOf265
  v164 := Tryz.zeroValue265 }
theorem Tryz.Builder_Extra_105 : Builder.Extra Tryz.prog Tryz.lays105_ren := {
  sizeBuilder := by kernel_rfl
  liesBuilder := by kernel_rfl
  t5 := Tryz.underlying5
  a5 := Tryz.isAgg5
  z5 := Tryz.sizeOf5
  v5 := Tryz.zeroValue5
  infoByte := by kernel_rfl
  cellsByte := by kernel_rfl
  sizeByte := by kernel_rfl
  neB5 := by decide }
open Go.RowKit Go.Lib in
theorem Tryz.strings_Repeat (s : ByteArray) (c : Nat) (w : World) (hc : c ≤ 9223372036854775807) (hlen : s.size * c ≤ 140737488355328) :
    Calls Tryz.prog 91 #[.string s, .int .i64 c] w fun e w' => e = .returned (.string ⟨(Lib.repeatL s.data.toList c).toArray⟩) ∧ Below w.heap.size w w' := Any.strings_Repeat Tryz.lays105 Tryz.Builder_Extra_105 s c w hc hlen
def Tryz.lays110_ren : Go.Shelf.Ren := ⟨fun | 110 => 167 | 109 => 201 | n => n, fun | 31 => 50 | 9 => 9 | 4 => 4 | 3 => 3 | 0 => 0 | n => n, fun | n => n⟩
theorem Tryz.lays110 : Go.Proofs.Lays.n110 Tryz.prog Tryz.lays110_ren := {
  mixed := by kernel_rfl
  f109 := Tryz.func201.trans (congrArg some (by kernel_rfl))
  f110 := Tryz.func167.trans (congrArg some (by kernel_rfl))
  t0 := Tryz.underlying0
  a0 := Tryz.isAgg0
  z0 := Tryz.sizeOf0
  v0 := Tryz.zeroValue0
  t3 := Tryz.underlying3
  a3 := Tryz.isAgg3
  z3 := Tryz.sizeOf3
  v3 := Tryz.zeroValue3
  t4 := Tryz.underlying4
  a4 := Tryz.isAgg4
  z4 := Tryz.sizeOf4
  v4 := Tryz.zeroValue4
  t9 := Tryz.underlying9
  a9 := Tryz.isAgg9
  z9 := Tryz.sizeOf9
  v9 := Tryz.zeroValue9
  t31 := Tryz.underlying50
  a31 := Tryz.isAgg50
  z31 := Tryz.sizeOf50
  v31 := Tryz.zeroValue50 }
open Go.Lib in
theorem Tryz.slices_Contains_string (b off n c : Nat) (zs : List ByteArray) (x : ByteArray) (w : World) (hz : n ≤ zs.length) (hbig : n ≤ 9223372036854775807) (hc : ∀ j, j < zs.length → w.cell? ⟨b, off + j, none⟩ = some (.string (zs.getD j ByteArray.empty))) :
    Calls Tryz.prog 167 #[.slice (some ⟨b, off, none⟩) n c, .string x] w fun e w' => e = .returned (.bool (Lib.containsS (zs.take n) x)) ∧ w' = w := Any.slices_Contains_string Tryz.lays110 b off n c zs x w hz hbig hc
open Go.Lib in
theorem Tryz.slices_Contains_string_empty (a : Option Addr) (c : Nat) (x : ByteArray) (w : World) :
    Calls Tryz.prog 167 #[.slice a 0 c, .string x] w fun e w' => e = .returned (.bool false) ∧ w' = w := Any.slices_Contains_string_empty Tryz.lays110 a c x w
def Tryz.laysNm220_ren : Go.Shelf.Ren := ⟨fun | 20 => 87 | n => n, fun | 22 => 48 | 3 => 3 | 4 => 4 | 0 => 0 | n => n, fun | n => n⟩
theorem Tryz.laysNm220 : Go.Proofs.Lays2.n20 Tryz.prog Tryz.laysNm220_ren := {
  mixed := by kernel_rfl
  f20 := Tryz.func87.trans (congrArg some (by kernel_rfl))
  t0 := Tryz.underlying0
  a0 := Tryz.isAgg0
  z0 := Tryz.sizeOf0
  v0 := Tryz.zeroValue0
  t3 := Tryz.underlying3
  a3 := Tryz.isAgg3
  z3 := Tryz.sizeOf3
  v3 := Tryz.zeroValue3
  t4 := Tryz.underlying4
  a4 := Tryz.isAgg4
  z4 := Tryz.sizeOf4
  v4 := Tryz.zeroValue4
  t22 := Tryz.underlying48
  a22 := Tryz.isAgg48
  z22 := Tryz.sizeOf48
  v22 := Tryz.zeroValue48
  i3 := by kernel_rfl }
open Go.RowKit Go.Lib Go.Sort in
theorem Tryz.slices_Compact_int (blk off cap : Nat) (zs : List Int) (w : World) (hH : Holds (Value.int .i64) w blk off zs.toArray) (hsz : zs.length ≤ 9223372036854775807) (hcap : zs.length ≤ cap) :
    Calls Tryz.prog 87 #[.slice (some ⟨blk, off, none⟩) zs.length cap] w fun e w' => e = .returned (.slice (some ⟨blk, off, none⟩) (Lib.compact zs).length cap) ∧ ∃ q, w' = putRow (Value.int .i64) (Sort.ahead w q) blk off (Lib.compact zs ++ List.replicate (zs.length - (Lib.compact zs).length) 0).toArray := Any.slices_Compact_int Tryz.laysNm220 blk off cap zs w hH hsz hcap
open Go.RowKit Go.Lib Go.Sort in
theorem Tryz.slices_Compact_int_empty (a : Option Addr) (cap : Nat) (w : World) :
    Calls Tryz.prog 87 #[.slice a 0 cap] w fun e w' => e = .returned (.slice a 0 cap) ∧ w' = w := Any.slices_Compact_int_empty Tryz.laysNm220 a cap w
def Tryz.laysNm231_ren : Go.Shelf.Ren := ⟨fun | 31 => 181 | 37 => 211 | n => n, fun | 3 => 3 | 4 => 4 | n => n, fun | n => n⟩
theorem Tryz.laysNm231 : Go.Proofs.Lays2.n31 Tryz.prog Tryz.laysNm231_ren := {
  mixed := by kernel_rfl
  f31 := Tryz.func181.trans (congrArg some (by kernel_rfl))
  f37 := Tryz.func211.trans (congrArg some (by kernel_rfl))
  t3 := Tryz.underlying3
  a3 := Tryz.isAgg3
  z3 := Tryz.sizeOf3
  v3 := Tryz.zeroValue3
  t4 := Tryz.underlying4
  a4 := Tryz.isAgg4
  z4 := Tryz.sizeOf4
  v4 := Tryz.zeroValue4 }
open Go.RowKit Go.Lib in
theorem Tryz.cmp_Less_int2 (x y : Int) (w : World) :
    Calls Tryz.prog 181 #[.int .i64 x, .int .i64 y] w fun e w' => e = .returned (.bool (decide (x < y))) ∧ w' = w := Any.cmp_Less_int2 Tryz.laysNm231 x y w
open Go.RowKit Go.Sort in
theorem Tryz.slices_Sort_int_none (p : Option Addr) (cap : Nat) (w : World) :
    Calls Tryz.prog 85 #[.slice p 0 cap] w fun e w' => e = .returned (.tuple #[]) ∧ w' = w := Any.slices_Sort_int_none Tryz.lays189 p cap w
def Tryz.laysSlE041_f84_ren : Go.Shelf.Ren := ⟨fun | 41 => 84 | n => n, fun | 22 => 48 | 23 => 3 | 4 => 4 | n => n, fun | n => n⟩
theorem Tryz.laysSlE041_f84 : Go.Proofs.SlLaysE0.n41 Tryz.prog Tryz.laysSlE041_f84_ren := {
  mixed := by kernel_rfl
  f41 := ⟨Tryz.f84.name, by decide, Tryz.func84.trans (congrArg some (by kernel_rfl))⟩
  t4 := Tryz.underlying4
  a4 := Tryz.isAgg4
  z4 := Tryz.sizeOf4
  v4 := Tryz.zeroValue4
  t22 := Tryz.underlying48
  a22 := Tryz.isAgg48
  z22 := Tryz.sizeOf48
  v22 := Tryz.zeroValue48 }
open Go.RowKit Go.Lib in
theorem Tryz.slices_Clone (i0 : TypeInfo) (z : Value) (size bytes : Nat) (hi : Tryz.prog.info? 3 = some i0) (hz0 : i0.zero = some z) (hz1 : i0.size = size) (hz2 : i0.bytes = bytes) (hzs : z.cells.size = size) (hsz : 0 < size) (z23 : ∀ w, (Go.sizeOf 3).run Tryz.prog w = .ok size w) (b off n c : Nat) (news : List Value) (w : World) (hl : news.length = n * size) (hn : n ≤ maxLen) (hbig : n * bytes ≤ 140737488355328) (hc : ∀ j u, news[j]? = some u → w.cell? ⟨b, off + j, none⟩ = some u) (h1 : ∀ u ∈ news, u.oneCell' = true) :
    Calls Tryz.prog 84 #[.slice (some ⟨b, off, none⟩) n c] w fun e w' => ∃ v', e = .returned v' ∧ w'.ownsRow w.heap.size 3 size v' n news ∧ v' ≠ .slice none 0 0 ∧ Below w.heap.size w w' := AnyE.slices_Clone Tryz.laysSlE041_f84 i0 z size bytes hi hz0 hz1 hz2 hzs hsz z23 b off n c news w hl hn hbig hc h1
open Go.RowKit Go.Lib in
theorem Tryz.slices_Clone_nil (n c : Nat) (w : World) :
    Calls Tryz.prog 84 #[.slice none n c] w fun e w' => e = .returned (.slice none 0 0) ∧ w' = w := AnyE.slices_Clone_nil Tryz.laysSlE041_f84 n c w
end Go.Proofs
