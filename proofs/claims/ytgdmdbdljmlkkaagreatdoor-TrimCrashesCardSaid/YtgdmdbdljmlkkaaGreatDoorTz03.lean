/- Shelf -/
import Derived.Test.YtgdmdbdljmlkkaaGreatDoorProg
import Derived.Test.YtgdmdbdljmlkkaaGreatDoorRows
import Derived.Shelf.Strings.Builder1
import Derived.Shelf.Strings.Builder2
import Derived.Shelf.Strings.Trim
import Derived.Shelf.Small.Utf8
import Derived.Shelf.Small.Bits
import Derived.Shelf.Small.Strs
import Derived.Shelf.Small.Wraps
import Derived.Shelf.Strings.BuilderF
import Derived.Shelf.Strconv.Itoa0
import Derived.Shelf.Strconv.Itoa1
import Derived.Shelf.LaysM
import Derived.Shelf.Strconv.Itoa2
import Derived.Shelf.Strconv.Itoa3
import Derived.Shelf.Strings.Search1
import Derived.Shelf.Sort.Plain
import Derived.Shelf.Strings.Prefix
import Derived.Shelf.Strings.Runes
import Derived.Shelf.Strings.AsciiSet
import Derived.Shelf.Bits.Mul64
import Derived.Shelf.Strings.Repeat
import Derived.Shelf.Unicode.DecodeSlow
import Derived.Shelf.Slices.Turned
import Derived.Shelf.Slices.Equal
import Derived.Ground.Names2Prog
import Derived.Shelf.Slices.Clone
import Derived.Shelf.Slices.CompactI
import Derived.Shelf.Slices.SearchI
import Derived.Shelf.Slices.Cells
import Derived.Shelf.Slices.In.SortNone
import Derived.Shelf.Slices.Empties2
import Derived.Ground.SlgnProg
import Derived.Shelf.SlicesE.Clone
set_option linter.unusedVariables false
set_option linter.unusedSimpArgs false
def Go.Proofs.YtgdmdbdljmlkkaaGreatDoor.powName : String := Go.Proofs.YtgdmdbdljmlkkaaGreatDoor.Rows.walMatchesRow.named.getD 2 (String.ofList [])
namespace Go.Proofs
open Go.Shelf
def Tryz.lays160_ren : Go.Shelf.Ren := ⟨fun | 160 => 168 | 232 => 199 | 231 => 198 | 227 => 200 | 234 => 202 | 233 => 201 | 236 => 204 | 235 => 203 | 228 => 230 | 271 => 233 | 151 => 232 | 197 => 231 | 120 => 248 | 152 => 247 | 260 => 246 | 137 => 171 | 119 => 253 | 224 => 254 | 225 => 255 | 217 => 206 | 266 => 234 | n => n, fun | 9 => 9 | 4 => 4 | 3 => 3 | 5 => 5 | 117 => 244 | 116 => 243 | 0 => 0 | 124 => 247 | 21 => 21 | 105 => 269 | 46 => 199 | 119 => 287 | 139 => 290 | 138 => 289 | n => n, fun | 3 => 2 | 4 => 3 | n => n⟩
theorem Tryz.lays160 : Go.Proofs.Lays.n160 Tryz.prog Tryz.lays160_ren := {
 mixed := by kernel_rfl
 f119 := Tryz.func253.trans (congrArg some (by kernel_rfl))
 f120 := Tryz.func248.trans (congrArg some (by kernel_rfl))
 f137 := Tryz.func171.trans (congrArg some (by kernel_rfl))
 f151 := Tryz.func232.trans (congrArg some (by kernel_rfl))
 f152 := Tryz.func247.trans (congrArg some (by kernel_rfl))
 f160 := Tryz.func168.trans (congrArg some (by kernel_rfl))
 f197 := Tryz.func231.trans (congrArg some (by kernel_rfl))
 f217 := Tryz.func206.trans (congrArg some (by kernel_rfl))
 f224 := Tryz.func254.trans (congrArg some (by kernel_rfl))
 f225 := Tryz.func255.trans (congrArg some (by kernel_rfl))
 f227 := Tryz.func200.trans (congrArg some (by kernel_rfl))
 f228 := Tryz.func230.trans (congrArg some (by kernel_rfl))
 f231 := Tryz.func198.trans (congrArg some (by kernel_rfl))
 f232 := Tryz.func199.trans (congrArg some (by kernel_rfl))
 f233 := Tryz.func201.trans (congrArg some (by kernel_rfl))
 f234 := Tryz.func202.trans (congrArg some (by kernel_rfl))
 f235 := Tryz.func203.trans (congrArg some (by kernel_rfl))
 f236 := Tryz.func204.trans (congrArg some (by kernel_rfl))
 f260 := Tryz.func246.trans (congrArg some (by kernel_rfl))
 f266 := Tryz.func234.trans (congrArg some (by kernel_rfl))
 f271 := Tryz.func233.trans (congrArg some (by kernel_rfl))
 t0 := Tryz.underlying0
 a0 := Tryz.isAgg0
 z0 := Tryz.sizeOf0
 v0 := Tryz.zeroValue0
 t3 := Tryz.underlying3
 a3 := Tryz.isAgg3
 z3 := Tryz.sizeOf3
 v3 := Tryz.zeroValue3
 t4 := Tryz.underlying4
 a4 := Tryz.isAgg4
 z4 := Tryz.sizeOf4
 v4 := Tryz.zeroValue4
 t5 := Tryz.underlying5
 a5 := Tryz.isAgg5
 z5 := Tryz.sizeOf5
 v5 := Tryz.zeroValue5
 t9 := Tryz.underlying9
 a9 := Tryz.isAgg9
 z9 := Tryz.sizeOf9
 v9 := Tryz.zeroValue9
 t21 := Tryz.underlying21
 a21 := Tryz.isAgg21
 z21 := Tryz.sizeOf21
 v21 := Tryz.zeroValue21
 t46 := Tryz.underlying199
 a46 := Tryz.isAgg199
 z46 := Tryz.sizeOf199
 v46 := Tryz.zeroValue199
 t105 := Tryz.underlying269
 a105 := Tryz.isAgg269
 z105 := Tryz.sizeOf269
 v105 := Tryz.zeroValue269
 t116 := Tryz.underlying243
 a116 := Tryz.isAgg243
 z116 := Tryz.sizeOf243
 t117 := Tryz.underlying244
 a117 := Tryz.isAgg244
 z117 := Tryz.sizeOf244
 v117 := Tryz.zeroValue244
 t119 := Tryz.underlying287
 a119 := Tryz.isAgg287
 z119 := Tryz.sizeOf287
 t124 := Tryz.underlying247
 a124 := Tryz.isAgg247
 z124 := Tryz.sizeOf247
 v124 := Tryz.zeroValue247
 t138 := Tryz.underlying289
 a138 := Tryz.isAgg289
 z138 := Tryz.sizeOf289
 v138 := Tryz.zeroValue289
 t139 := Tryz.underlying290
 a139 := Tryz.isAgg290
 z139 := Tryz.sizeOf290
 v139 := Tryz.zeroValue290
 g3 := by kernel_rfl
 g4 := by kernel_rfl }
def Tryz.lays137_ren : Go.Shelf.Ren := ⟨fun | 137 => 171 | 217 => 206 | 266 => 234 | n => n, fun | 9 => 9 | 5 => 5 | 3 => 3 | n => n, fun | n => n⟩
theorem Tryz.lays137 : Go.Proofs.Lays.n137 Tryz.prog Tryz.lays137_ren := {
 mixed := by kernel_rfl
 f137 := Tryz.func171.trans (congrArg some (by kernel_rfl))
 f217 := Tryz.func206.trans (congrArg some (by kernel_rfl))
 f266 := Tryz.func234.trans (congrArg some (by kernel_rfl))
 t3 := Tryz.underlying3
 a3 := Tryz.isAgg3
 z3 := Tryz.sizeOf3
 v3 := Tryz.zeroValue3
 t5 := Tryz.underlying5
 a5 := Tryz.isAgg5
 z5 := Tryz.sizeOf5
 v5 := Tryz.zeroValue5
 t9 := Tryz.underlying9
 a9 := Tryz.isAgg9
 z9 := Tryz.sizeOf9
 v9 := Tryz.zeroValue9 }
open Go.RowKit in
theorem Tryz.strings_IndexByte (s : ByteArray) (c : Int) (w : World) :
   Calls Tryz.prog 171 #[.string s, .int .u8 c] w fun e w' => e = .returned (.int .i64 (Lib.indexByte s.data.toList c.toNat.toUInt8)) ∧ w' = w := Any.strings_IndexByte Tryz.lays137 s c w
def Tryz.lays103_ren : Go.Shelf.Ren := ⟨fun | 103 => 152 | 210 => 178 | 206 => 193 | n => n, fun | 9 => 9 | 4 => 4 | 24 => 97 | 3 => 3 | n => n, fun | n => n⟩
theorem Tryz.lays103 : Go.Proofs.Lays.n103 Tryz.prog Tryz.lays103_ren := {
 mixed := by kernel_rfl
 f103 := Tryz.func152.trans (congrArg some (by kernel_rfl))
 f206 := Tryz.func193.trans (congrArg some (by kernel_rfl))
 f210 := Tryz.func178.trans (congrArg some (by kernel_rfl))
 t3 := Tryz.underlying3
 a3 := Tryz.isAgg3
 z3 := Tryz.sizeOf3
 v3 := Tryz.zeroValue3
 t4 := Tryz.underlying4
 a4 := Tryz.isAgg4
 z4 := Tryz.sizeOf4
 v4 := Tryz.zeroValue4
 t9 := Tryz.underlying9
 a9 := Tryz.isAgg9
 z9 := Tryz.sizeOf9
 v9 := Tryz.zeroValue9
 t24 := Tryz.underlying97
 a24 := Tryz.isAgg97
 z24 := Tryz.sizeOf97
 v24 := Tryz.zeroValue97 }
open Go.RowKit in
theorem Tryz.strings_CutPrefix (s p : ByteArray) (w : World) :
   Calls Tryz.prog 152 #[.string s, .string p] w fun e w' => e = .returned (.tuple #[.string ⟨(Lib.trimPrefix s.data.toList p.data.toList).toArray⟩, .bool (Lib.hasPrefix s.data.toList p.data.toList)]) ∧ w' = w := Any.strings_CutPrefix Tryz.lays103 s p w
def Tryz.laysM171_ren : Go.Shelf.Ren := ⟨fun | 171 => 116 | 243 => 155 | 246 => 190 | 283 => 224 | 284 => 225 | 285 => 226 | 286 => 227 | 129 => 189 | 317 => 242 | 318 => 243 | 319 => 244 | 320 => 245 | 337 => 251 | 338 => 252 | n => n, fun | 3 => 3 | 9 => 9 | 2 => 2 | 4 => 4 | 171 => 262 | 0 => 0 | 53 => 233 | 37 => 72 | 5 => 5 | 173 => 264 | 212 => 282 | 51 => 185 | 20 => 20 | 213 => 283 | 46 => 199 | 232 => 293 | 233 => 294 | n => n, fun | 17 => 0 | 18 => 4 | 19 => 5 | n => n⟩
theorem Tryz.laysM171 : Go.Proofs.LaysM.n171 Tryz.prog Tryz.laysM171_ren := {
 mixed := by kernel_rfl
 f129 := Tryz.func189.trans (congrArg some (by kernel_rfl))
 f171 := Tryz.func116.trans (congrArg some (by kernel_rfl))
 f243 := Tryz.func155.trans (congrArg some (by kernel_rfl))
 f246 := Tryz.func190.trans (congrArg some (by kernel_rfl))
 f283 := Tryz.func224.trans (congrArg some (by kernel_rfl))
 f284 := Tryz.func225.trans (congrArg some (by kernel_rfl))
 f285 := Tryz.func226.trans (congrArg some (by kernel_rfl))
 f286 := Tryz.func227.trans (congrArg some (by kernel_rfl))
 f317 := Tryz.func242.trans (congrArg some (by kernel_rfl))
 f318 := Tryz.func243.trans (congrArg some (by kernel_rfl))
 f319 := Tryz.func244.trans (congrArg some (by kernel_rfl))
 f320 := Tryz.func245.trans (congrArg some (by kernel_rfl))
 f337 := Tryz.func251.trans (congrArg some (by kernel_rfl))
 f338 := Tryz.func252.trans (congrArg some (by kernel_rfl))
 t0 := Tryz.underlying0
 a0 := Tryz.isAgg0
 z0 := Tryz.sizeOf0
 v0 := Tryz.zeroValue0
 t2 := Tryz.underlying2
 a2 := Tryz.isAgg2
 z2 := Tryz.sizeOf2
 v2 := Tryz.zeroValue2
 t3 := Tryz.underlying3
 a3 := Tryz.isAgg3
 z3 := Tryz.sizeOf3
 v3 := Tryz.zeroValue3
 t4 := Tryz.underlying4
 a4 := Tryz.isAgg4
 z4 := Tryz.sizeOf4
 v4 := Tryz.zeroValue4
 t5 := Tryz.underlying5
 a5 := Tryz.isAgg5
 z5 := Tryz.sizeOf5
 v5 := Tryz.zeroValue5
 t9 := Tryz.underlying9
 a9 := Tryz.isAgg9
 z9 := Tryz.sizeOf9
 v9 := Tryz.zeroValue9
 t20 := Tryz.underlying20
 a20 := Tryz.isAgg20
 z20 := Tryz.sizeOf20
 v20 := Tryz.zeroValue20
 t37 := Tryz.underlying72
 a37 := Tryz.isAgg72
 z37 := Tryz.sizeOf72
 v37 := Tryz.zeroValue72
 t46 := Tryz.underlying199
 a46 := Tryz.isAgg199
 z46 := Tryz.sizeOf199
 v46 := Tryz.zeroValue199
 t51 := Tryz.underlying185
 a51 := Tryz.isAgg185
 z51 := Tryz.sizeOf185
 v51 := Tryz.zeroValue185
 t53 := Tryz.underlying233
 a53 := Tryz.isAgg233
 z53 := Tryz.sizeOf233
 v53 := Tryz.zeroValue233
 t171 := Tryz.underlying262
 a171 := Tryz.isAgg262
 z171 := Tryz.sizeOf262
 v171 := Tryz.zeroValue262
 t173 := Tryz.underlying264
 a173 := Tryz.isAgg264
 z173 := Tryz.sizeOf264
 v173 := Tryz.zeroValue264
 t212 := Tryz.underlying282
 a212 := Tryz.isAgg282
 z212 := Tryz.sizeOf282
 v212 := Tryz.zeroValue282
 t213 := Tryz.underlying283
 a213 := Tryz.isAgg283
 z213 := Tryz.sizeOf283
 t232 := Tryz.underlying293
 a232 := Tryz.isAgg293
 z232 := Tryz.sizeOf293
 v232 := Tryz.zeroValue293
 t233 := Tryz.underlying294
 a233 := Tryz.isAgg294
 z233 := Tryz.sizeOf294
 v233 := Tryz.zeroValue294
 g17 := by kernel_rfl
 g18 := by kernel_rfl
 g19 := by kernel_rfl
 i0 := by kernel_rfl
 i2 := by kernel_rfl
 i3 := by kernel_rfl
 i4 := by kernel_rfl
 i5 := by kernel_rfl
 i9 := by kernel_rfl
 i20 := by kernel_rfl
 i37 := by kernel_rfl
 i46 := by kernel_rfl
 i51 := by kernel_rfl
 i53 := by kernel_rfl
 i171 := by kernel_rfl
 i173 := by kernel_rfl
 i212 := by kernel_rfl
 i232 := by kernel_rfl
 i233 := by kernel_rfl
 m17 := by kernel_rfl
 m18 := by kernel_rfl
 m19 := by kernel_rfl }
open Go.RowKit Go.Sort Go.Lib in
theorem Tryz.strconv_Itoa (n : Int) (h0 : -9223372036854775808 ≤ n) (h1 : n ≤ 9223372036854775807) (w : World) (htab : Lib.TabIs Tryz.prog w Go.Proofs.YtgdmdbdljmlkkaaGreatDoor.powName .u64 Lib.pow10Tab) :
   Calls Tryz.prog 116 #[.int .i64 n] w fun e w' => e = .returned (.string ⟨(Lib.itoa n).toArray⟩) ∧ ∃ k os, w' = grow (w.drewN k) os := Any.strconv_Itoa Tryz.laysM171 n h0 h1 w htab
def Tryz.lays189_ren : Go.Shelf.Ren := ⟨fun | 189 => 114 | 125 => 154 | 257 => 153 | 128 => 188 | 129 => 189 | 294 => 179 | 295 => 180 | 296 => 181 | 297 => 182 | 298 => 183 | 299 => 184 | 216 => 185 | 300 => 186 | 301 => 187 | 328 => 218 | 329 => 219 | 330 => 220 | 331 => 221 | 332 => 222 | 215 => 223 | 343 => 241 | n => n, fun | 28 => 40 | 3 => 3 | 46 => 199 | 0 => 0 | 51 => 185 | 53 => 233 | 4 => 4 | 183 => 225 | 182 => 224 | 131 => 162 | 5 => 5 | 9 => 9 | 218 => 255 | 222 => 259 | 228 => 277 | 229 => 278 | n => n, fun | n => n⟩
theorem Tryz.lays189 : Go.Proofs.Lays.n189 Tryz.prog Tryz.lays189_ren := {
 mixed := by kernel_rfl
 f125 := Tryz.func154.trans (congrArg some (by kernel_rfl))
 f128 := Tryz.func188.trans (congrArg some (by kernel_rfl))
 f129 := Tryz.func189.trans (congrArg some (by kernel_rfl))
 f189 := Tryz.func114.trans (congrArg some (by kernel_rfl))
 f215 := Tryz.func223.trans (congrArg some (by kernel_rfl))
 f216 := Tryz.func185.trans (congrArg some (by kernel_rfl))
 f257 := Tryz.func153.trans (congrArg some (by kernel_rfl))
 f294 := Tryz.func179.trans (congrArg some (by kernel_rfl))
 f295 := Tryz.func180.trans (congrArg some (by kernel_rfl))
 f296 := Tryz.func181.trans (congrArg some (by kernel_rfl))
 f297 := Tryz.func182.trans (congrArg some (by kernel_rfl))
 f298 := Tryz.func183.trans (congrArg some (by kernel_rfl))
 f299 := Tryz.func184.trans (congrArg some (by kernel_rfl))
 f300 := Tryz.func186.trans (congrArg some (by kernel_rfl))
 f301 := Tryz.func187.trans (congrArg some (by kernel_rfl))
 f328 := Tryz.func218.trans (congrArg some (by kernel_rfl))
 f329 := Tryz.func219.trans (congrArg some (by kernel_rfl))
 f330 := Tryz.func220.trans (congrArg some (by kernel_rfl))
 f331 := Tryz.func221.trans (congrArg some (by kernel_rfl))
 f332 := Tryz.func222.trans (congrArg some (by kernel_rfl))
 f343 := Tryz.func241.trans (congrArg some (by kernel_rfl))
 t0 := Tryz.underlying0
 a0 := Tryz.isAgg0
 z0 := Tryz.sizeOf0
 v0 := Tryz.zeroValue0
 t3 := Tryz.underlying3
 a3 := Tryz.isAgg3
 z3 := Tryz.sizeOf3
 v3 := Tryz.zeroValue3
 t4 := Tryz.underlying4
 a4 := Tryz.isAgg4
 z4 := Tryz.sizeOf4
 v4 := Tryz.zeroValue4
 t5 := Tryz.underlying5
 a5 := Tryz.isAgg5
 z5 := Tryz.sizeOf5
 v5 := Tryz.zeroValue5
 t9 := Tryz.underlying9
 a9 := Tryz.isAgg9
 z9 := Tryz.sizeOf9
 v9 := Tryz.zeroValue9
 t28 := Tryz.underlying40
 a28 := Tryz.isAgg40
 z28 := Tryz.sizeOf40
 v28 := Tryz.zeroValue40
 t46 := Tryz.underlying199
 a46 := Tryz.isAgg199
 z46 := Tryz.sizeOf199
 v46 := Tryz.zeroValue199
 t51 := Tryz.underlying185
 a51 := Tryz.isAgg185
 z51 := Tryz.sizeOf185
 v51 := Tryz.zeroValue185
 t53 := Tryz.underlying233
 a53 := Tryz.isAgg233
 z53 := Tryz.sizeOf233
 v53 := Tryz.zeroValue233
 t131 := Tryz.underlying162
 a131 := Tryz.isAgg162
 z131 := Tryz.sizeOf162
 v131 := Tryz.zeroValue162
 t182 := Tryz.underlying224
 a182 := Tryz.isAgg224
 z182 := Tryz.sizeOf224
 v182 := Tryz.zeroValue224
 t183 := Tryz.underlying225
 a183 := Tryz.isAgg225
 z183 := Tryz.sizeOf225
 v183 := Tryz.zeroValue225
 t218 := Tryz.underlying255
 a218 := Tryz.isAgg255
 z218 := Tryz.sizeOf255
 v218 := Tryz.zeroValue255
 t222 := Tryz.underlying259
 a222 := Tryz.isAgg259
 z222 := Tryz.sizeOf259
 v222 := Tryz.zeroValue259
 t228 := Tryz.underlying277
 a228 := Tryz.isAgg277
 z228 := Tryz.sizeOf277
 v228 := Tryz.zeroValue277
 t229 := Tryz.underlying278
 a229 := Tryz.isAgg278
 z229 := Tryz.sizeOf278
 v229 := Tryz.zeroValue278 }
open Go.Sort Go.RowKit in
theorem Tryz.slices_Sort_int (blk off cap : Nat) (zs : List Int) (w : World) (hH : Holds (Value.int .i64) w blk off zs.toArray) (hblk : blk < w.heap.size) (hsz : zs.length < 4611686018427387904) :
   Calls Tryz.prog 114 #[.slice (some ⟨blk, off, none⟩) zs.length cap] w fun e w' =>
     e = .returned (.tuple #[]) ∧ ∃ n os, w' = grow (putRow (Value.int .i64) (Sort.ahead w n) blk off (zs.mergeSort fun x y => decide (x ≤ y)).toArray) os := Any.slices_Sort_int Tryz.lays189 blk off cap zs w hH hblk hsz
def Tryz.lays105_ren : Go.Shelf.Ren := ⟨fun | 105 => 117 | 212 => 156 | 99 => 157 | 165 => 158 | 166 => 159 | 170 => 160 | 169 => 161 | 263 => 191 | 264 => 192 | 206 => 193 | 240 => 194 | 241 => 195 | 276 => 228 | 277 => 229 | n => n, fun | 9 => 9 | 3 => 3 | 4 => 4 | 20 => 20 | 0 => 0 | 46 => 199 | 109 => 200 | 5 => 5 | 72 => 205 | 76 => 208 | 51 => 185 | 146 => 235 | 53 => 233 | 148 => 237 | 70 => 203 | 37 => 72 | 75 => 207 | 127 => 239 | 164 => 266 | 80 => 151 | n => n, fun | n => n⟩
theorem Tryz.lays105 : Go.Proofs.Lays.n105 Tryz.prog Tryz.lays105_ren := {
 mixed := by kernel_rfl
 f99 := Tryz.func157.trans (congrArg some (by kernel_rfl))
 f105 := Tryz.func117.trans (congrArg some (by kernel_rfl))
 f165 := Tryz.func158.trans (congrArg some (by kernel_rfl))
 f166 := Tryz.func159.trans (congrArg some (by kernel_rfl))
 f169 := Tryz.func161.trans (congrArg some (by kernel_rfl))
 f170 := Tryz.func160.trans (congrArg some (by kernel_rfl))
 f206 := Tryz.func193.trans (congrArg some (by kernel_rfl))
 f212 := Tryz.func156.trans (congrArg some (by kernel_rfl))
 f240 := Tryz.func194.trans (congrArg some (by kernel_rfl))
 f241 := Tryz.func195.trans (congrArg some (by kernel_rfl))
 f263 := Tryz.func191.trans (congrArg some (by kernel_rfl))
 f264 := Tryz.func192.trans (congrArg some (by kernel_rfl))
 f276 := Tryz.func228.trans (congrArg some (by kernel_rfl))
 f277 := Tryz.func229.trans (congrArg some (by kernel_rfl))
 t0 := Tryz.underlying0
 a0 := Tryz.isAgg0
 z0 := Tryz.sizeOf0
 v0 := Tryz.zeroValue0
 t3 := Tryz.underlying3
 a3 := Tryz.isAgg3
 z3 := Tryz.sizeOf3
 v3 := Tryz.zeroValue3
 t4 := Tryz.underlying4
 a4 := Tryz.isAgg4
 z4 := Tryz.sizeOf4
 v4 := Tryz.zeroValue4
 t5 := Tryz.underlying5
 a5 := Tryz.isAgg5
 z5 := Tryz.sizeOf5
 v5 := Tryz.zeroValue5
 t9 := Tryz.underlying9
 a9 := Tryz.isAgg9
 z9 := Tryz.sizeOf9
 v9 := Tryz.zeroValue9
 t20 := Tryz.underlying20
 a20 := Tryz.isAgg20
 z20 := Tryz.sizeOf20
 v20 := Tryz.zeroValue20
 t37 := Tryz.underlying72
 a37 := Tryz.isAgg72
 z37 := Tryz.sizeOf72
 v37 := Tryz.zeroValue72
 t46 := Tryz.underlying199
 a46 := Tryz.isAgg199
 z46 := Tryz.sizeOf199
 v46 := Tryz.zeroValue199
 t51 := Tryz.underlying185
 a51 := Tryz.isAgg185
 z51 := Tryz.sizeOf185
 v51 := Tryz.zeroValue185
 t53 := Tryz.underlying233
 a53 := Tryz.isAgg233
 z53 := Tryz.sizeOf233
 v53 := Tryz.zeroValue233
 t70 := Tryz.underlying203
 a70 := Tryz.isAgg203
 z70 := Tryz.sizeOf203
 v70 := Tryz.zeroValue203
 t72 := Tryz.underlying205
 a72 := Tryz.isAgg205
 z72 := Tryz.sizeOf205
 v72 := Tryz.zeroValue205
 t75 := Tryz.underlying207
 a75 := Tryz.isAgg207
 z75 := Tryz.sizeOf207
 v75 := Tryz.zeroValue207
 t76 := Tryz.underlying208
 a76 := Tryz.isAgg208
 z76 := Tryz.sizeOf208
 v76 := Tryz.zeroValue208
 t109 := Tryz.underlying200
 a109 := Tryz.isAgg200
 z109 := Tryz.sizeOf200
 v109 := Tryz.zeroValue200
 t127 := Tryz.underlying239
 a127 := Tryz.isAgg239
 z127 := Tryz.sizeOf239
 v127 := Tryz.zeroValue239
 t146 := Tryz.underlying235
 a146 := Tryz.isAgg235
 z146 := Tryz.sizeOf235
 v146 := Tryz.zeroValue235
 t148 := Tryz.underlying237
 a148 := Tryz.isAgg237
 z148 := Tryz.sizeOf237
 v148 := Tryz.zeroValue237
 t164 := Tryz.underlying266
 a164 := Tryz.isAgg266
 z164 := Tryz.sizeOf266
 v164 := Tryz.zeroValue266 }
theorem Tryz.Builder_Extra_105 : Builder.Extra Tryz.prog Tryz.lays105_ren := {
 sizeBuilder := by kernel_rfl
 liesBuilder := by kernel_rfl
 t5 := Tryz.underlying5
 a5 := Tryz.isAgg5
 z5 := Tryz.sizeOf5
 v5 := Tryz.zeroValue5
 infoByte := by kernel_rfl
 cellsByte := by kernel_rfl
 sizeByte := by kernel_rfl
 neB5 := by decide }
open Go.RowKit Go.Lib in
theorem Tryz.strings_Repeat (s : ByteArray) (c : Nat) (w : World) (hc : c ≤ 9223372036854775807) (hlen : s.size * c ≤ 140737488355328) :
   Calls Tryz.prog 117 #[.string s, .int .i64 c] w fun e w' => e = .returned (.string ⟨(Lib.repeatL s.data.toList c).toArray⟩) ∧ Below w.heap.size w w' := Any.strings_Repeat Tryz.lays105 Tryz.Builder_Extra_105 s c w hc hlen
def Tryz.lays110_ren : Go.Shelf.Ren := ⟨fun | 110 => 147 | 109 => 175 | n => n, fun | 31 => 89 | 9 => 9 | 4 => 4 | 3 => 3 | 0 => 0 | n => n, fun | n => n⟩
theorem Tryz.lays110 : Go.Proofs.Lays.n110 Tryz.prog Tryz.lays110_ren := {
 mixed := by kernel_rfl
 f109 := Tryz.func175.trans (congrArg some (by kernel_rfl))
 f110 := Tryz.func147.trans (congrArg some (by kernel_rfl))
 t0 := Tryz.underlying0
 a0 := Tryz.isAgg0
 z0 := Tryz.sizeOf0
 v0 := Tryz.zeroValue0
 t3 := Tryz.underlying3
 a3 := Tryz.isAgg3
 z3 := Tryz.sizeOf3
 v3 := Tryz.zeroValue3
 t4 := Tryz.underlying4
 a4 := Tryz.isAgg4
 z4 := Tryz.sizeOf4
 v4 := Tryz.zeroValue4
 t9 := Tryz.underlying9
 a9 := Tryz.isAgg9
 z9 := Tryz.sizeOf9
 v9 := Tryz.zeroValue9
 t31 := Tryz.underlying89
 a31 := Tryz.isAgg89
 z31 := Tryz.sizeOf89
 v31 := Tryz.zeroValue89 }
open Go.Lib in
theorem Tryz.slices_Contains_string (b off n c : Nat) (zs : List ByteArray) (x : ByteArray) (w : World) (hz : n ≤ zs.length) (hbig : n ≤ 9223372036854775807) (hc : ∀ j, j < zs.length → w.cell? ⟨b, off + j, none⟩ = some (.string (zs.getD j ByteArray.empty))) :
   Calls Tryz.prog 147 #[.slice (some ⟨b, off, none⟩) n c, .string x] w fun e w' => e = .returned (.bool (Lib.containsS (zs.take n) x)) ∧ w' = w := Any.slices_Contains_string Tryz.lays110 b off n c zs x w hz hbig hc
open Go.Lib in
theorem Tryz.slices_Contains_string_empty (a : Option Addr) (c : Nat) (x : ByteArray) (w : World) :
   Calls Tryz.prog 147 #[.slice a 0 c, .string x] w fun e w' => e = .returned (.bool false) ∧ w' = w := Any.slices_Contains_string_empty Tryz.lays110 a c x w
def Tryz.laysNm220_ren : Go.Shelf.Ren := ⟨fun | 20 => 115 | n => n, fun | 22 => 40 | 3 => 3 | 4 => 4 | 0 => 0 | n => n, fun | n => n⟩
theorem Tryz.laysNm220 : Go.Proofs.Lays2.n20 Tryz.prog Tryz.laysNm220_ren := {
 mixed := by kernel_rfl
 f20 := Tryz.func115.trans (congrArg some (by kernel_rfl))
 t0 := Tryz.underlying0
 a0 := Tryz.isAgg0
 z0 := Tryz.sizeOf0
 v0 := Tryz.zeroValue0
 t3 := Tryz.underlying3
 a3 := Tryz.isAgg3
 z3 := Tryz.sizeOf3
 v3 := Tryz.zeroValue3
 t4 := Tryz.underlying4
 a4 := Tryz.isAgg4
 z4 := Tryz.sizeOf4
 v4 := Tryz.zeroValue4
 t22 := Tryz.underlying40
 a22 := Tryz.isAgg40
 z22 := Tryz.sizeOf40
 v22 := Tryz.zeroValue40
 i3 := by kernel_rfl }
open Go.RowKit Go.Lib Go.Sort in
theorem Tryz.slices_Compact_int (blk off cap : Nat) (zs : List Int) (w : World) (hH : Holds (Value.int .i64) w blk off zs.toArray) (hsz : zs.length ≤ 9223372036854775807) (hcap : zs.length ≤ cap) :
   Calls Tryz.prog 115 #[.slice (some ⟨blk, off, none⟩) zs.length cap] w fun e w' => e = .returned (.slice (some ⟨blk, off, none⟩) (Lib.compact zs).length cap) ∧ ∃ q, w' = putRow (Value.int .i64) (Sort.ahead w q) blk off (Lib.compact zs ++ List.replicate (zs.length - (Lib.compact zs).length) 0).toArray := Any.slices_Compact_int Tryz.laysNm220 blk off cap zs w hH hsz hcap
open Go.RowKit Go.Lib Go.Sort in
theorem Tryz.slices_Compact_int_empty (a : Option Addr) (cap : Nat) (w : World) :
   Calls Tryz.prog 115 #[.slice a 0 cap] w fun e w' => e = .returned (.slice a 0 cap) ∧ w' = w := Any.slices_Compact_int_empty Tryz.laysNm220 a cap w
open Go.RowKit Go.Sort in
theorem Tryz.slices_Sort_int_none (p : Option Addr) (cap : Nat) (w : World) :
   Calls Tryz.prog 114 #[.slice p 0 cap] w fun e w' => e = .returned (.tuple #[]) ∧ w' = w := Any.slices_Sort_int_none Tryz.lays189 p cap w
end Go.Proofs
