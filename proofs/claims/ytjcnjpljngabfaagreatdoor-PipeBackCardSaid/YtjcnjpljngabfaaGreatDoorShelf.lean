import Derived.Shelf.Strings.Builder1
import Derived.Shelf.Strings.Builder2
import Derived.Shelf.Strings.Trim
import Derived.Shelf.Small.Utf8
import Derived.Shelf.Small.Bits
import Derived.Shelf.Small.Strs
import Derived.Shelf.Small.Wraps
import Derived.Shelf.Strings.BuilderF
import Derived.Shelf.Strings.BuilderK
import Derived.Shelf.Strings.BuilderRune
import Derived.Shelf.Utf8.AppendRune
import Derived.Shelf.Utf8.AppendRunePlain
import Derived.Shelf.Strings.Builder2Cap
import Derived.Shelf.Strconv.Atoi
import Derived.Shelf.Strconv.Itoa0
import Derived.Shelf.Strconv.Itoa1
import Derived.Shelf.LaysM
import Derived.Shelf.Strconv.Itoa2
import Derived.Shelf.Strconv.Itoa3
import Derived.Shelf.Strconv.AtoiErrFast
import Derived.Shelf.Strconv.ParseIntEmpty
import Derived.Shelf.Strconv.AtoiFail
import Derived.Shelf.Strconv.Clone
import Derived.Shelf.Strconv.SyntaxError
import Derived.Shelf.LaysC
import Derived.Shelf.Strconv.ToError
import Derived.Shelf.Strconv.AtoiErr
import Derived.Shelf.Strconv.ErrVar
import Derived.Shelf.Strconv.Lower
import Derived.Shelf.Strconv.ParseUint10
import Derived.Shelf.Strconv.ParseUint10Empty
import Derived.Shelf.Strconv.ParseUint10Any
import Derived.Shelf.Strconv.ParseInt10
import Derived.Shelf.Strconv.AtoiLong
import Derived.Shelf.Strconv.AtoiInnerAll
import Derived.Shelf.Strconv.RangeError
import Derived.Shelf.Strconv.ToErrorRange
import Derived.Shelf.Strconv.AtoiAll
import Derived.Shelf.Strconv.ErrVarAll
import Derived.Shelf.Strconv.ParseUintEmpty
import Derived.Shelf.Strconv.ParseUint10b64
import Derived.Shelf.Strconv.ParseUint10b32
import Derived.Shelf.Strconv.ParseUint10b16
import Derived.Shelf.Strconv.ParseUint10b8
import Derived.Shelf.Strconv.ParseUint10At
import Derived.Shelf.Strconv.ParseInt10At64
import Derived.Shelf.Strconv.ParseInt10At32
import Derived.Shelf.Strconv.ParseInt10At16
import Derived.Shelf.Strconv.ParseInt10At8
import Derived.Shelf.Strconv.ParseInt10All
import Derived.Shelf.Strings.Search1
import Derived.Shelf.Sort.Plain
import Derived.Shelf.Strings.Prefix
import Derived.Shelf.Unicode.Decode
import Derived.Shelf.Strings.Runes
import Derived.Shelf.Strings.AsciiSet
import Derived.Shelf.Bits.Mul64
import Derived.Shelf.Strings.Repeat
import Derived.Shelf.Unicode.DecodeSlow
import Derived.Shelf.Unicode.DecodeAny
import Derived.Shelf.Unicode.DecodeLast
import Derived.Shelf.Strings.BuilderCap
import Derived.Shelf.Slices.Turned
import Derived.Shelf.Slices.Equal
import Derived.Ground.Names2Prog
import Derived.Shelf.Slices.Clone
import Derived.Shelf.Slices.SearchI
import Derived.Shelf.Slices.In.SortNone
import Derived.Shelf.Slices.Empties2
import Derived.Test.YtjcnjpljngabfaaGreatDoorProg
namespace Go.Proofs
open Go.Shelf
def Tryz.lays162_ren : Go.Shelf.Ren := ⟨fun | 162 => 346 | 232 => 350 | 227 => 351 | 234 => 352 | 236 => 353 | 228 => 355 | 271 => 356 | 151 => 357 | 120 => 359 | 197 => 360 | 152 => 361 | 260 => 362 | 137 => 125 | 119 => 363 | 224 => 364 | 225 => 365 | 217 => 148 | 266 => 174 | n => n, fun | 9 => 9 | 4 => 4 | 3 => 3 | 5 => 5 | 117 => 396 | 116 => 395 | 0 => 0 | 124 => 399 | 21 => 21 | 105 => 400 | 46 => 237 | 119 => 337 | 139 => 340 | 138 => 339 | n => n, fun | 3 => 6 | 4 => 7 | n => n⟩
theorem Tryz.lays162 : Go.Proofs.Lays.n162 Tryz.prog Tryz.lays162_ren := {
  mixed := by kernel_rfl
  f119 := Tryz.func363.trans (congrArg some (by kernel_rfl))
  f120 := Tryz.func359.trans (congrArg some (by kernel_rfl))
  f137 := Tryz.func125.trans (congrArg some (by kernel_rfl))
  f151 := Tryz.func357.trans (congrArg some (by kernel_rfl))
  f152 := Tryz.func361.trans (congrArg some (by kernel_rfl))
  f162 := Tryz.func346.trans (congrArg some (by kernel_rfl))
  f197 := Tryz.func360.trans (congrArg some (by kernel_rfl))
  f217 := Tryz.func148.trans (congrArg some (by kernel_rfl))
  f224 := Tryz.func364.trans (congrArg some (by kernel_rfl))
  f225 := Tryz.func365.trans (congrArg some (by kernel_rfl))
  f227 := Tryz.func351.trans (congrArg some (by kernel_rfl))
  f228 := Tryz.func355.trans (congrArg some (by kernel_rfl))
  f232 := Tryz.func350.trans (congrArg some (by kernel_rfl))
  f234 := Tryz.func352.trans (congrArg some (by kernel_rfl))
  f236 := Tryz.func353.trans (congrArg some (by kernel_rfl))
  f260 := Tryz.func362.trans (congrArg some (by kernel_rfl))
  f266 := Tryz.func174.trans (congrArg some (by kernel_rfl))
  f271 := Tryz.func356.trans (congrArg some (by kernel_rfl))
  t0 := Tryz.underlying0
  a0 := Tryz.isAgg0
  z0 := Tryz.sizeOf0
  v0 := Tryz.zeroValue0
  t3 := Tryz.underlying3
  a3 := Tryz.isAgg3
  z3 := Tryz.sizeOf3
  v3 := Tryz.zeroValue3
  t4 := Tryz.underlying4
  a4 := Tryz.isAgg4
  z4 := Tryz.sizeOf4
  v4 := Tryz.zeroValue4
  t5 := Tryz.underlying5
  a5 := Tryz.isAgg5
  z5 := Tryz.sizeOf5
  v5 := Tryz.zeroValue5
  t9 := Tryz.underlying9
  a9 := Tryz.isAgg9
  z9 := Tryz.sizeOf9
  v9 := Tryz.zeroValue9
  t21 := Tryz.underlying21
  a21 := Tryz.isAgg21
  z21 := Tryz.sizeOf21
  v21 := Tryz.zeroValue21
  t46 := Tryz.underlying237
  a46 := Tryz.isAgg237
  z46 := Tryz.sizeOf237
  v46 := Tryz.zeroValue237
  t105 := Tryz.underlying400
  a105 := Tryz.isAgg400
  z105 := Tryz.sizeOf400
  v105 := Tryz.zeroValue400
  t116 := Tryz.underlying395
  a116 := Tryz.isAgg395
  z116 := Tryz.sizeOf395
  t117 := Tryz.underlying396
  a117 := Tryz.isAgg396
  z117 := Tryz.sizeOf396
  v117 := Tryz.zeroValue396
  t119 := Tryz.underlying337
  a119 := Tryz.isAgg337
  z119 := Tryz.sizeOf337
  t124 := Tryz.underlying399
  a124 := Tryz.isAgg399
  z124 := Tryz.sizeOf399
  v124 := Tryz.zeroValue399
  t138 := Tryz.underlying339
  a138 := Tryz.isAgg339
  z138 := Tryz.sizeOf339
  v138 := Tryz.zeroValue339
  t139 := Tryz.underlying340
  a139 := Tryz.isAgg340
  z139 := Tryz.sizeOf340
  v139 := Tryz.zeroValue340
  g3 := by kernel_rfl
  g4 := by kernel_rfl }
open Go.RowKit in
/-- strings.TrimRight: "TrimRight returns a slice of the string s, with all trailing Unicode code points contained in cutset removed.": AT A cutset OF ONE ASCII BYTE. The world is as it was. (LAID: no walk: one application.) -/
theorem Tryz.strings_TrimRight_one (s : ByteArray) (c : UInt8) (hc : c.toNat < 128) (w : World) (hs : s.size ≤ 9223372036854775807) :
    Calls Tryz.prog 346 #[.string s, .string ⟨#[c]⟩] w fun e w' => e = .returned (.string ⟨(Lib.trimRightB s.data.toList c).toArray⟩) ∧ w' = w := Any.strings_TrimRight_one Tryz.lays162 s c hc w hs
def Tryz.lays106_ren : Go.Shelf.Ren := ⟨fun | 106 => 294 | 213 => 298 | 265 => 300 | n => n, fun | 9 => 9 | 3 => 3 | n => n, fun | n => n⟩
theorem Tryz.lays106 : Go.Proofs.Lays.n106 Tryz.prog Tryz.lays106_ren := {
  mixed := by kernel_rfl
  f106 := Tryz.func294.trans (congrArg some (by kernel_rfl))
  f213 := Tryz.func298.trans (congrArg some (by kernel_rfl))
  f265 := Tryz.func300.trans (congrArg some (by kernel_rfl))
  t3 := Tryz.underlying3
  a3 := Tryz.isAgg3
  z3 := Tryz.sizeOf3
  v3 := Tryz.zeroValue3
  t9 := Tryz.underlying9
  a9 := Tryz.isAgg9
  z9 := Tryz.sizeOf9
  v9 := Tryz.zeroValue9 }
open Go.RowKit in
/-- strings.Compare: "Compare returns an integer comparing two strings lexicographically. The result will be 0 if a == b, -1 if a < b, and +1 if a > b.": IT RETURNS 'Lib.compareBytes a b'; the world is as it was. (LAID: no walk: one application.) -/
theorem Tryz.strings_Compare (a b : ByteArray) (w : World) :
    Calls Tryz.prog 294 #[.string a, .string b] w fun e w' => e = .returned (.int .i64 (Lib.compareBytes a.data.toList b.data.toList)) ∧ w' = w := Any.strings_Compare Tryz.lays106 a b w
def Tryz.lays137_ren : Go.Shelf.Ren := ⟨fun | 137 => 125 | 217 => 148 | 266 => 174 | n => n, fun | 9 => 9 | 5 => 5 | 3 => 3 | n => n, fun | n => n⟩
theorem Tryz.lays137 : Go.Proofs.Lays.n137 Tryz.prog Tryz.lays137_ren := {
  mixed := by kernel_rfl
  f137 := Tryz.func125.trans (congrArg some (by kernel_rfl))
  f217 := Tryz.func148.trans (congrArg some (by kernel_rfl))
  f266 := Tryz.func174.trans (congrArg some (by kernel_rfl))
  t3 := Tryz.underlying3
  a3 := Tryz.isAgg3
  z3 := Tryz.sizeOf3
  v3 := Tryz.zeroValue3
  t5 := Tryz.underlying5
  a5 := Tryz.isAgg5
  z5 := Tryz.sizeOf5
  v5 := Tryz.zeroValue5
  t9 := Tryz.underlying9
  a9 := Tryz.isAgg9
  z9 := Tryz.sizeOf9
  v9 := Tryz.zeroValue9 }
open Go.RowKit in
/-- strings.IndexByte: "IndexByte returns the index of the first instance of c in s, or -1 if c is not present in s.": IT RETURNS 'Lib.indexByte s c'; the world is as it was. (LAID: no walk: one application.) -/
theorem Tryz.strings_IndexByte (s : ByteArray) (c : Int) (w : World) :
    Calls Tryz.prog 125 #[.string s, .int .u8 c] w fun e w' => e = .returned (.int .i64 (Lib.indexByte s.data.toList c.toNat.toUInt8)) ∧ w' = w := Any.strings_IndexByte Tryz.lays137 s c w
def Tryz.lays122_ren : Go.Shelf.Ren := ⟨fun | 122 => 307 | 215 => 311 | n => n, fun | 3 => 3 | 4 => 4 | n => n, fun | n => n⟩
theorem Tryz.lays122 : Go.Proofs.Lays.n122 Tryz.prog Tryz.lays122_ren := {
  mixed := by kernel_rfl
  f122 := Tryz.func307.trans (congrArg some (by kernel_rfl))
  f215 := Tryz.func311.trans (congrArg some (by kernel_rfl))
  t3 := Tryz.underlying3
  a3 := Tryz.isAgg3
  z3 := Tryz.sizeOf3
  v3 := Tryz.zeroValue3
  t4 := Tryz.underlying4
  a4 := Tryz.isAgg4
  z4 := Tryz.sizeOf4
  v4 := Tryz.zeroValue4 }
open Go.RowKit in
/-- cmp.Compare at int: "Compare returns -1 if x is less than y, 0 if x equals y, +1 if x is greater than y.": IT RETURNS 'Lib.compareInt x y'; the world is as it was. (LAID: no walk: one application.) -/
theorem Tryz.cmp_Compare_int (x y : Int) (w : World) :
    Calls Tryz.prog 307 #[.int .i64 x, .int .i64 y] w fun e w' => e = .returned (.int .i64 (Lib.compareInt x y)) ∧ w' = w := Any.cmp_Compare_int Tryz.lays122 x y w
def Tryz.lays172_ren : Go.Shelf.Ren := ⟨fun | 172 => 105 | 244 => 126 | 245 => 127 | 247 => 149 | 279 => 150 | 280 => 151 | 281 => 152 | 282 => 153 | 287 => 175 | 316 => 176 | 171 => 60 | 205 => 177 | 321 => 189 | 322 => 190 | 243 => 87 | 246 => 109 | 283 => 129 | 284 => 130 | 285 => 131 | 286 => 132 | 129 => 156 | 317 => 155 | 318 => 157 | 319 => 158 | 320 => 159 | 337 => 178 | 338 => 179 | n => n, fun | 9 => 9 | 3 => 3 | 75 => 183 | 76 => 184 | 4 => 4 | 5 => 5 | 167 => 227 | 37 => 143 | 0 => 0 | 85 => 228 | 2 => 2 | 168 => 230 | 53 => 209 | 175 => 256 | 46 => 237 | 210 => 260 | 127 => 272 | 145 => 276 | 143 => 274 | 21 => 21 | 171 => 208 | 173 => 212 | 212 => 234 | 51 => 235 | 20 => 20 | 213 => 236 | 232 => 277 | 233 => 278 | 80 => 130 | n => n, fun | 15 => 1 | 16 => 2 | 17 => 0 | 18 => 4 | 19 => 5 | n => n⟩
theorem Tryz.lays172 : Go.Proofs.Lays.n172 Tryz.prog Tryz.lays172_ren := {
  mixed := by kernel_rfl
  f129 := Tryz.func156.trans (congrArg some (by kernel_rfl))
  f171 := Tryz.func60.trans (congrArg some (by kernel_rfl))
  f172 := Tryz.func105.trans (congrArg some (by kernel_rfl))
  f205 := Tryz.func177.trans (congrArg some (by kernel_rfl))
  f243 := Tryz.func87.trans (congrArg some (by kernel_rfl))
  f244 := Tryz.func126.trans (congrArg some (by kernel_rfl))
  f245 := Tryz.func127.trans (congrArg some (by kernel_rfl))
  f246 := Tryz.func109.trans (congrArg some (by kernel_rfl))
  f247 := Tryz.func149.trans (congrArg some (by kernel_rfl))
  f279 := Tryz.func150.trans (congrArg some (by kernel_rfl))
  f280 := Tryz.func151.trans (congrArg some (by kernel_rfl))
  f281 := Tryz.func152.trans (congrArg some (by kernel_rfl))
  f282 := Tryz.func153.trans (congrArg some (by kernel_rfl))
  f283 := Tryz.func129.trans (congrArg some (by kernel_rfl))
  f284 := Tryz.func130.trans (congrArg some (by kernel_rfl))
  f285 := Tryz.func131.trans (congrArg some (by kernel_rfl))
  f286 := Tryz.func132.trans (congrArg some (by kernel_rfl))
  f287 := Tryz.func175.trans (congrArg some (by kernel_rfl))
  f316 := Tryz.func176.trans (congrArg some (by kernel_rfl))
  f317 := Tryz.func155.trans (congrArg some (by kernel_rfl))
  f318 := Tryz.func157.trans (congrArg some (by kernel_rfl))
  f319 := Tryz.func158.trans (congrArg some (by kernel_rfl))
  f320 := Tryz.func159.trans (congrArg some (by kernel_rfl))
  f321 := Tryz.func189.trans (congrArg some (by kernel_rfl))
  f322 := Tryz.func190.trans (congrArg some (by kernel_rfl))
  f337 := Tryz.func178.trans (congrArg some (by kernel_rfl))
  f338 := Tryz.func179.trans (congrArg some (by kernel_rfl))
  t0 := Tryz.underlying0
  a0 := Tryz.isAgg0
  z0 := Tryz.sizeOf0
  v0 := Tryz.zeroValue0
  t2 := Tryz.underlying2
  a2 := Tryz.isAgg2
  z2 := Tryz.sizeOf2
  v2 := Tryz.zeroValue2
  t3 := Tryz.underlying3
  a3 := Tryz.isAgg3
  z3 := Tryz.sizeOf3
  v3 := Tryz.zeroValue3
  t4 := Tryz.underlying4
  a4 := Tryz.isAgg4
  z4 := Tryz.sizeOf4
  v4 := Tryz.zeroValue4
  t5 := Tryz.underlying5
  a5 := Tryz.isAgg5
  z5 := Tryz.sizeOf5
  v5 := Tryz.zeroValue5
  t9 := Tryz.underlying9
  a9 := Tryz.isAgg9
  z9 := Tryz.sizeOf9
  v9 := Tryz.zeroValue9
  t20 := Tryz.underlying20
  a20 := Tryz.isAgg20
  z20 := Tryz.sizeOf20
  v20 := Tryz.zeroValue20
  t21 := Tryz.underlying21
  a21 := Tryz.isAgg21
  z21 := Tryz.sizeOf21
  v21 := Tryz.zeroValue21
  t37 := Tryz.underlying143
  a37 := Tryz.isAgg143
  z37 := Tryz.sizeOf143
  v37 := Tryz.zeroValue143
  t46 := Tryz.underlying237
  a46 := Tryz.isAgg237
  z46 := Tryz.sizeOf237
  v46 := Tryz.zeroValue237
  t51 := Tryz.underlying235
  a51 := Tryz.isAgg235
  z51 := Tryz.sizeOf235
  v51 := Tryz.zeroValue235
  t53 := Tryz.underlying209
  a53 := Tryz.isAgg209
  z53 := Tryz.sizeOf209
  v53 := Tryz.zeroValue209
  t75 := Tryz.underlying183
  a75 := Tryz.isAgg183
  z75 := Tryz.sizeOf183
  v75 := Tryz.zeroValue183
  t76 := Tryz.underlying184
  a76 := Tryz.isAgg184
  z76 := Tryz.sizeOf184
  v76 := Tryz.zeroValue184
  t85 := Tryz.underlying228
  a85 := Tryz.isAgg228
  z85 := Tryz.sizeOf228
  v85 := Tryz.zeroValue228
  t127 := Tryz.underlying272
  a127 := Tryz.isAgg272
  z127 := Tryz.sizeOf272
  v127 := Tryz.zeroValue272
  t143 := Tryz.underlying274
  a143 := Tryz.isAgg274
  z143 := Tryz.sizeOf274
  v143 := Tryz.zeroValue274
  t145 := Tryz.underlying276
  a145 := Tryz.isAgg276
  z145 := Tryz.sizeOf276
  v145 := Tryz.zeroValue276
  t167 := Tryz.underlying227
  a167 := Tryz.isAgg227
  z167 := Tryz.sizeOf227
  v167 := Tryz.zeroValue227
  t168 := Tryz.underlying230
  a168 := Tryz.isAgg230
  z168 := Tryz.sizeOf230
  v168 := Tryz.zeroValue230
  t171 := Tryz.underlying208
  a171 := Tryz.isAgg208
  z171 := Tryz.sizeOf208
  v171 := Tryz.zeroValue208
  t173 := Tryz.underlying212
  a173 := Tryz.isAgg212
  z173 := Tryz.sizeOf212
  v173 := Tryz.zeroValue212
  t175 := Tryz.underlying256
  a175 := Tryz.isAgg256
  z175 := Tryz.sizeOf256
  v175 := Tryz.zeroValue256
  t210 := Tryz.underlying260
  a210 := Tryz.isAgg260
  z210 := Tryz.sizeOf260
  v210 := Tryz.zeroValue260
  t212 := Tryz.underlying234
  a212 := Tryz.isAgg234
  z212 := Tryz.sizeOf234
  v212 := Tryz.zeroValue234
  t213 := Tryz.underlying236
  a213 := Tryz.isAgg236
  z213 := Tryz.sizeOf236
  t232 := Tryz.underlying277
  a232 := Tryz.isAgg277
  z232 := Tryz.sizeOf277
  v232 := Tryz.zeroValue277
  t233 := Tryz.underlying278
  a233 := Tryz.isAgg278
  z233 := Tryz.sizeOf278
  v233 := Tryz.zeroValue278
  g15 := by kernel_rfl
  g16 := by kernel_rfl
  g17 := by kernel_rfl
  g18 := by kernel_rfl
  g19 := by kernel_rfl }
open Go.RowKit in
/-- strconv.Atoi: "Atoi is equivalent to ParseInt(s, 10, 0), converted to type int.": AT A DECIMAL NUMERAL OF AT MOST 18 BYTES: its value, and a nil error. The world behind the call: the one new row that the library's '[]byte(s)' lays. (LAID: no walk: one application.) -/
theorem Tryz.strconv_Atoi (s : ByteArray) (n : Int) (hl : s.size ≤ 18) (h : Lib.atoi s.data.toList = some n) (w : World) :
    Calls Tryz.prog 105 #[.string s] w fun e w' => e = .returned (.tuple #[.int .i64 n, .nilIface]) ∧ ∃ t, w' = Lib.bytesWorld w 5 t := Any.strconv_Atoi Tryz.lays172 s n hl h w
def Tryz.lays129_ren : Go.Shelf.Ren := ⟨fun | 129 => 156 | n => n, fun | 53 => 209 | 3 => 3 | 4 => 4 | 46 => 237 | 5 => 5 | 9 => 9 | n => n, fun | n => n⟩
theorem Tryz.lays129 : Go.Proofs.Lays.n129 Tryz.prog Tryz.lays129_ren := {
  mixed := by kernel_rfl
  f129 := Tryz.func156.trans (congrArg some (by kernel_rfl))
  t3 := Tryz.underlying3
  a3 := Tryz.isAgg3
  z3 := Tryz.sizeOf3
  v3 := Tryz.zeroValue3
  t4 := Tryz.underlying4
  a4 := Tryz.isAgg4
  z4 := Tryz.sizeOf4
  v4 := Tryz.zeroValue4
  t5 := Tryz.underlying5
  a5 := Tryz.isAgg5
  z5 := Tryz.sizeOf5
  v5 := Tryz.zeroValue5
  t9 := Tryz.underlying9
  a9 := Tryz.isAgg9
  z9 := Tryz.sizeOf9
  v9 := Tryz.zeroValue9
  t46 := Tryz.underlying237
  a46 := Tryz.isAgg237
  z46 := Tryz.sizeOf237
  v46 := Tryz.zeroValue237
  t53 := Tryz.underlying209
  a53 := Tryz.isAgg209
  z53 := Tryz.sizeOf209
  v53 := Tryz.zeroValue209 }
/-- bits.Len64: "Len64 returns the minimum number of bits required to represent x; the result is 0 for x == 0.": IT RETURNS 'Lib.bitLen x'; the world is as it was. ('h0', 'h1': x is a uint64.) (LAID: no walk: one application.) -/
theorem Tryz.bits_Len64 (x : Int) (w : World) (h0 : 0 ≤ x) (h1 : x ≤ 18446744073709551615) :
    Calls Tryz.prog 156 #[.int .u64 x] w fun e w' => e = .returned (.int .i64 (Lib.bitLen x.toNat)) ∧ w' = w := Any.bits_Len64 Tryz.lays129 x w h0 h1
def Tryz.laysM171_ren : Go.Shelf.Ren := ⟨fun | 171 => 60 | 243 => 87 | 246 => 109 | 283 => 129 | 284 => 130 | 285 => 131 | 286 => 132 | 129 => 156 | 317 => 155 | 318 => 157 | 319 => 158 | 320 => 159 | 337 => 178 | 338 => 179 | n => n, fun | 3 => 3 | 9 => 9 | 2 => 2 | 4 => 4 | 171 => 208 | 0 => 0 | 53 => 209 | 37 => 143 | 5 => 5 | 173 => 212 | 212 => 234 | 51 => 235 | 20 => 20 | 213 => 236 | 46 => 237 | 232 => 277 | 233 => 278 | n => n, fun | 17 => 0 | 18 => 4 | 19 => 5 | n => n⟩
theorem Tryz.laysM171 : Go.Proofs.LaysM.n171 Tryz.prog Tryz.laysM171_ren := {
  mixed := by kernel_rfl
  f129 := Tryz.func156.trans (congrArg some (by kernel_rfl))
  f171 := Tryz.func60.trans (congrArg some (by kernel_rfl))
  f243 := Tryz.func87.trans (congrArg some (by kernel_rfl))
  f246 := Tryz.func109.trans (congrArg some (by kernel_rfl))
  f283 := Tryz.func129.trans (congrArg some (by kernel_rfl))
  f284 := Tryz.func130.trans (congrArg some (by kernel_rfl))
  f285 := Tryz.func131.trans (congrArg some (by kernel_rfl))
  f286 := Tryz.func132.trans (congrArg some (by kernel_rfl))
  f317 := Tryz.func155.trans (congrArg some (by kernel_rfl))
  f318 := Tryz.func157.trans (congrArg some (by kernel_rfl))
  f319 := Tryz.func158.trans (congrArg some (by kernel_rfl))
  f320 := Tryz.func159.trans (congrArg some (by kernel_rfl))
  f337 := Tryz.func178.trans (congrArg some (by kernel_rfl))
  f338 := Tryz.func179.trans (congrArg some (by kernel_rfl))
  t0 := Tryz.underlying0
  a0 := Tryz.isAgg0
  z0 := Tryz.sizeOf0
  v0 := Tryz.zeroValue0
  t2 := Tryz.underlying2
  a2 := Tryz.isAgg2
  z2 := Tryz.sizeOf2
  v2 := Tryz.zeroValue2
  t3 := Tryz.underlying3
  a3 := Tryz.isAgg3
  z3 := Tryz.sizeOf3
  v3 := Tryz.zeroValue3
  t4 := Tryz.underlying4
  a4 := Tryz.isAgg4
  z4 := Tryz.sizeOf4
  v4 := Tryz.zeroValue4
  t5 := Tryz.underlying5
  a5 := Tryz.isAgg5
  z5 := Tryz.sizeOf5
  v5 := Tryz.zeroValue5
  t9 := Tryz.underlying9
  a9 := Tryz.isAgg9
  z9 := Tryz.sizeOf9
  v9 := Tryz.zeroValue9
  t20 := Tryz.underlying20
  a20 := Tryz.isAgg20
  z20 := Tryz.sizeOf20
  v20 := Tryz.zeroValue20
  t37 := Tryz.underlying143
  a37 := Tryz.isAgg143
  z37 := Tryz.sizeOf143
  v37 := Tryz.zeroValue143
  t46 := Tryz.underlying237
  a46 := Tryz.isAgg237
  z46 := Tryz.sizeOf237
  v46 := Tryz.zeroValue237
  t51 := Tryz.underlying235
  a51 := Tryz.isAgg235
  z51 := Tryz.sizeOf235
  v51 := Tryz.zeroValue235
  t53 := Tryz.underlying209
  a53 := Tryz.isAgg209
  z53 := Tryz.sizeOf209
  v53 := Tryz.zeroValue209
  t171 := Tryz.underlying208
  a171 := Tryz.isAgg208
  z171 := Tryz.sizeOf208
  v171 := Tryz.zeroValue208
  t173 := Tryz.underlying212
  a173 := Tryz.isAgg212
  z173 := Tryz.sizeOf212
  v173 := Tryz.zeroValue212
  t212 := Tryz.underlying234
  a212 := Tryz.isAgg234
  z212 := Tryz.sizeOf234
  v212 := Tryz.zeroValue234
  t213 := Tryz.underlying236
  a213 := Tryz.isAgg236
  z213 := Tryz.sizeOf236
  t232 := Tryz.underlying277
  a232 := Tryz.isAgg277
  z232 := Tryz.sizeOf277
  v232 := Tryz.zeroValue277
  t233 := Tryz.underlying278
  a233 := Tryz.isAgg278
  z233 := Tryz.sizeOf278
  v233 := Tryz.zeroValue278
  g17 := by kernel_rfl
  g18 := by kernel_rfl
  g19 := by kernel_rfl
  i0 := by kernel_rfl
  i2 := by kernel_rfl
  i3 := by kernel_rfl
  i4 := by kernel_rfl
  i5 := by kernel_rfl
  i9 := by kernel_rfl
  i20 := by kernel_rfl
  i37 := by kernel_rfl
  i46 := by kernel_rfl
  i51 := by kernel_rfl
  i53 := by kernel_rfl
  i171 := by kernel_rfl
  i173 := by kernel_rfl
  i212 := by kernel_rfl
  i232 := by kernel_rfl
  i233 := by kernel_rfl
  m17 := by kernel_rfl
  m18 := by kernel_rfl
  m19 := by kernel_rfl }
open Go.RowKit Go.Sort Go.Lib in
/-- strconv.Itoa: "Itoa is equivalent to FormatInt(int64(i), 10).": i's DECIMAL NUMERAL ('Lib.itoa': a '-' where i is negative, then the digits), FOR EVERY int. The world behind the call: the world before it, new blocks behind the heap (the library's 'var a [24]byte'), draws. (LAID: no walk: one application.) -/
theorem Tryz.strconv_Itoa (n : Int) (h0 : -9223372036854775808 ≤ n) (h1 : n ≤ 9223372036854775807) (w : World) (htab : Lib.TabIs Tryz.prog w "internal/strconv.uint64pow10" .u64 Lib.pow10Tab) :
    Calls Tryz.prog 60 #[.int .i64 n] w fun e w' => e = .returned (.string ⟨(Lib.itoa n).toArray⟩) ∧ ∃ k os, w' = grow (w.drewN k) os := Any.strconv_Itoa Tryz.laysM171 n h0 h1 w htab
def Tryz.lays171_ren : Go.Shelf.Ren := ⟨fun | 171 => 60 | 243 => 87 | 246 => 109 | 283 => 129 | 284 => 130 | 285 => 131 | 286 => 132 | 129 => 156 | 317 => 155 | 318 => 157 | 319 => 158 | 320 => 159 | 337 => 178 | 338 => 179 | n => n, fun | 3 => 3 | 9 => 9 | 2 => 2 | 4 => 4 | 171 => 208 | 0 => 0 | 53 => 209 | 37 => 143 | 5 => 5 | 173 => 212 | 212 => 234 | 51 => 235 | 20 => 20 | 213 => 236 | 46 => 237 | 232 => 277 | 233 => 278 | n => n, fun | 17 => 0 | 18 => 4 | 19 => 5 | n => n⟩
theorem Tryz.lays171 : Go.Proofs.Lays.n171 Tryz.prog Tryz.lays171_ren := {
  mixed := by kernel_rfl
  f129 := Tryz.func156.trans (congrArg some (by kernel_rfl))
  f171 := Tryz.func60.trans (congrArg some (by kernel_rfl))
  f243 := Tryz.func87.trans (congrArg some (by kernel_rfl))
  f246 := Tryz.func109.trans (congrArg some (by kernel_rfl))
  f283 := Tryz.func129.trans (congrArg some (by kernel_rfl))
  f284 := Tryz.func130.trans (congrArg some (by kernel_rfl))
  f285 := Tryz.func131.trans (congrArg some (by kernel_rfl))
  f286 := Tryz.func132.trans (congrArg some (by kernel_rfl))
  f317 := Tryz.func155.trans (congrArg some (by kernel_rfl))
  f318 := Tryz.func157.trans (congrArg some (by kernel_rfl))
  f319 := Tryz.func158.trans (congrArg some (by kernel_rfl))
  f320 := Tryz.func159.trans (congrArg some (by kernel_rfl))
  f337 := Tryz.func178.trans (congrArg some (by kernel_rfl))
  f338 := Tryz.func179.trans (congrArg some (by kernel_rfl))
  t0 := Tryz.underlying0
  a0 := Tryz.isAgg0
  z0 := Tryz.sizeOf0
  v0 := Tryz.zeroValue0
  t2 := Tryz.underlying2
  a2 := Tryz.isAgg2
  z2 := Tryz.sizeOf2
  v2 := Tryz.zeroValue2
  t3 := Tryz.underlying3
  a3 := Tryz.isAgg3
  z3 := Tryz.sizeOf3
  v3 := Tryz.zeroValue3
  t4 := Tryz.underlying4
  a4 := Tryz.isAgg4
  z4 := Tryz.sizeOf4
  v4 := Tryz.zeroValue4
  t5 := Tryz.underlying5
  a5 := Tryz.isAgg5
  z5 := Tryz.sizeOf5
  v5 := Tryz.zeroValue5
  t9 := Tryz.underlying9
  a9 := Tryz.isAgg9
  z9 := Tryz.sizeOf9
  v9 := Tryz.zeroValue9
  t20 := Tryz.underlying20
  a20 := Tryz.isAgg20
  z20 := Tryz.sizeOf20
  v20 := Tryz.zeroValue20
  t37 := Tryz.underlying143
  a37 := Tryz.isAgg143
  z37 := Tryz.sizeOf143
  v37 := Tryz.zeroValue143
  t46 := Tryz.underlying237
  a46 := Tryz.isAgg237
  z46 := Tryz.sizeOf237
  v46 := Tryz.zeroValue237
  t51 := Tryz.underlying235
  a51 := Tryz.isAgg235
  z51 := Tryz.sizeOf235
  v51 := Tryz.zeroValue235
  t53 := Tryz.underlying209
  a53 := Tryz.isAgg209
  z53 := Tryz.sizeOf209
  v53 := Tryz.zeroValue209
  t171 := Tryz.underlying208
  a171 := Tryz.isAgg208
  z171 := Tryz.sizeOf208
  v171 := Tryz.zeroValue208
  t173 := Tryz.underlying212
  a173 := Tryz.isAgg212
  z173 := Tryz.sizeOf212
  v173 := Tryz.zeroValue212
  t212 := Tryz.underlying234
  a212 := Tryz.isAgg234
  z212 := Tryz.sizeOf234
  v212 := Tryz.zeroValue234
  t213 := Tryz.underlying236
  a213 := Tryz.isAgg236
  z213 := Tryz.sizeOf236
  t232 := Tryz.underlying277
  a232 := Tryz.isAgg277
  z232 := Tryz.sizeOf277
  v232 := Tryz.zeroValue277
  t233 := Tryz.underlying278
  a233 := Tryz.isAgg278
  z233 := Tryz.sizeOf278
  v233 := Tryz.zeroValue278
  g17 := by kernel_rfl
  g18 := by kernel_rfl
  g19 := by kernel_rfl }
open Go.RowKit Go.Sort Go.Lib in
/-- THE ROAD WITHOUT THE TABLE: 0 <= i < 100: NO PREMISE ON THE WORLD, AND THE WORLD IS AS IT WAS: a row that keeps its argument in that range need list no table ('laid = []'). (LAID: no walk: one application.) -/
theorem Tryz.strconv_Itoa_small (i : Nat) (hi : i < 100) (w : World) :
    Calls Tryz.prog 60 #[.int .i64 i] w fun e w' => e = .returned (.string ⟨(Lib.decDigits i).toArray⟩) ∧ w' = w := Any.strconv_Itoa_small Tryz.lays171 i hi w
def Tryz.laysC172_ren : Go.Shelf.Ren := ⟨fun | 172 => 105 | 244 => 126 | 245 => 127 | 247 => 149 | 279 => 150 | 280 => 151 | 281 => 152 | 282 => 153 | 287 => 175 | 316 => 176 | 171 => 60 | 205 => 177 | 321 => 189 | 322 => 190 | 243 => 87 | 246 => 109 | 283 => 129 | 284 => 130 | 285 => 131 | 286 => 132 | 129 => 156 | 317 => 155 | 318 => 157 | 319 => 158 | 320 => 159 | 337 => 178 | 338 => 179 | n => n, fun | 9 => 9 | 3 => 3 | 75 => 183 | 76 => 184 | 4 => 4 | 5 => 5 | 167 => 227 | 37 => 143 | 0 => 0 | 85 => 228 | 2 => 2 | 168 => 230 | 53 => 209 | 175 => 256 | 46 => 237 | 210 => 260 | 127 => 272 | 145 => 276 | 143 => 274 | 21 => 21 | 171 => 208 | 173 => 212 | 212 => 234 | 51 => 235 | 20 => 20 | 213 => 236 | 232 => 277 | 233 => 278 | 80 => 130 | n => n, fun | 15 => 1 | 16 => 2 | 17 => 0 | 18 => 4 | 19 => 5 | n => n⟩
theorem Tryz.laysC172 : Go.Proofs.LaysC.n172 Tryz.prog Tryz.laysC172_ren := {
  mixed := by kernel_rfl
  f129 := Tryz.func156.trans (congrArg some (by kernel_rfl))
  f171 := Tryz.func60.trans (congrArg some (by kernel_rfl))
  f172 := Tryz.func105.trans (congrArg some (by kernel_rfl))
  f205 := Tryz.func177.trans (congrArg some (by kernel_rfl))
  f243 := Tryz.func87.trans (congrArg some (by kernel_rfl))
  f244 := Tryz.func126.trans (congrArg some (by kernel_rfl))
  f245 := Tryz.func127.trans (congrArg some (by kernel_rfl))
  f246 := Tryz.func109.trans (congrArg some (by kernel_rfl))
  f247 := Tryz.func149.trans (congrArg some (by kernel_rfl))
  f279 := Tryz.func150.trans (congrArg some (by kernel_rfl))
  f280 := Tryz.func151.trans (congrArg some (by kernel_rfl))
  f281 := Tryz.func152.trans (congrArg some (by kernel_rfl))
  f282 := Tryz.func153.trans (congrArg some (by kernel_rfl))
  f283 := Tryz.func129.trans (congrArg some (by kernel_rfl))
  f284 := Tryz.func130.trans (congrArg some (by kernel_rfl))
  f285 := Tryz.func131.trans (congrArg some (by kernel_rfl))
  f286 := Tryz.func132.trans (congrArg some (by kernel_rfl))
  f287 := Tryz.func175.trans (congrArg some (by kernel_rfl))
  f316 := Tryz.func176.trans (congrArg some (by kernel_rfl))
  f317 := Tryz.func155.trans (congrArg some (by kernel_rfl))
  f318 := Tryz.func157.trans (congrArg some (by kernel_rfl))
  f319 := Tryz.func158.trans (congrArg some (by kernel_rfl))
  f320 := Tryz.func159.trans (congrArg some (by kernel_rfl))
  f321 := Tryz.func189.trans (congrArg some (by kernel_rfl))
  f322 := Tryz.func190.trans (congrArg some (by kernel_rfl))
  f337 := Tryz.func178.trans (congrArg some (by kernel_rfl))
  f338 := Tryz.func179.trans (congrArg some (by kernel_rfl))
  t0 := Tryz.underlying0
  a0 := Tryz.isAgg0
  z0 := Tryz.sizeOf0
  v0 := Tryz.zeroValue0
  t2 := Tryz.underlying2
  a2 := Tryz.isAgg2
  z2 := Tryz.sizeOf2
  v2 := Tryz.zeroValue2
  t3 := Tryz.underlying3
  a3 := Tryz.isAgg3
  z3 := Tryz.sizeOf3
  v3 := Tryz.zeroValue3
  t4 := Tryz.underlying4
  a4 := Tryz.isAgg4
  z4 := Tryz.sizeOf4
  v4 := Tryz.zeroValue4
  t5 := Tryz.underlying5
  a5 := Tryz.isAgg5
  z5 := Tryz.sizeOf5
  v5 := Tryz.zeroValue5
  t9 := Tryz.underlying9
  a9 := Tryz.isAgg9
  z9 := Tryz.sizeOf9
  v9 := Tryz.zeroValue9
  t20 := Tryz.underlying20
  a20 := Tryz.isAgg20
  z20 := Tryz.sizeOf20
  v20 := Tryz.zeroValue20
  t21 := Tryz.underlying21
  a21 := Tryz.isAgg21
  z21 := Tryz.sizeOf21
  v21 := Tryz.zeroValue21
  t37 := Tryz.underlying143
  a37 := Tryz.isAgg143
  z37 := Tryz.sizeOf143
  v37 := Tryz.zeroValue143
  t46 := Tryz.underlying237
  a46 := Tryz.isAgg237
  z46 := Tryz.sizeOf237
  v46 := Tryz.zeroValue237
  t51 := Tryz.underlying235
  a51 := Tryz.isAgg235
  z51 := Tryz.sizeOf235
  v51 := Tryz.zeroValue235
  t53 := Tryz.underlying209
  a53 := Tryz.isAgg209
  z53 := Tryz.sizeOf209
  v53 := Tryz.zeroValue209
  t75 := Tryz.underlying183
  a75 := Tryz.isAgg183
  z75 := Tryz.sizeOf183
  v75 := Tryz.zeroValue183
  t76 := Tryz.underlying184
  a76 := Tryz.isAgg184
  z76 := Tryz.sizeOf184
  v76 := Tryz.zeroValue184
  t85 := Tryz.underlying228
  a85 := Tryz.isAgg228
  z85 := Tryz.sizeOf228
  v85 := Tryz.zeroValue228
  t127 := Tryz.underlying272
  a127 := Tryz.isAgg272
  z127 := Tryz.sizeOf272
  v127 := Tryz.zeroValue272
  t143 := Tryz.underlying274
  a143 := Tryz.isAgg274
  z143 := Tryz.sizeOf274
  v143 := Tryz.zeroValue274
  t145 := Tryz.underlying276
  a145 := Tryz.isAgg276
  z145 := Tryz.sizeOf276
  v145 := Tryz.zeroValue276
  t167 := Tryz.underlying227
  a167 := Tryz.isAgg227
  z167 := Tryz.sizeOf227
  v167 := Tryz.zeroValue227
  t168 := Tryz.underlying230
  a168 := Tryz.isAgg230
  z168 := Tryz.sizeOf230
  v168 := Tryz.zeroValue230
  t171 := Tryz.underlying208
  a171 := Tryz.isAgg208
  z171 := Tryz.sizeOf208
  v171 := Tryz.zeroValue208
  t173 := Tryz.underlying212
  a173 := Tryz.isAgg212
  z173 := Tryz.sizeOf212
  v173 := Tryz.zeroValue212
  t175 := Tryz.underlying256
  a175 := Tryz.isAgg256
  z175 := Tryz.sizeOf256
  v175 := Tryz.zeroValue256
  t210 := Tryz.underlying260
  a210 := Tryz.isAgg260
  z210 := Tryz.sizeOf260
  v210 := Tryz.zeroValue260
  t212 := Tryz.underlying234
  a212 := Tryz.isAgg234
  z212 := Tryz.sizeOf234
  v212 := Tryz.zeroValue234
  t213 := Tryz.underlying236
  a213 := Tryz.isAgg236
  z213 := Tryz.sizeOf236
  t232 := Tryz.underlying277
  a232 := Tryz.isAgg277
  z232 := Tryz.sizeOf277
  v232 := Tryz.zeroValue277
  t233 := Tryz.underlying278
  a233 := Tryz.isAgg278
  z233 := Tryz.sizeOf278
  v233 := Tryz.zeroValue278
  g15 := by kernel_rfl
  g16 := by kernel_rfl
  g17 := by kernel_rfl
  g18 := by kernel_rfl
  g19 := by kernel_rfl
  t80 := Tryz.underlying130
  a80 := Tryz.isAgg130
  z80 := Tryz.sizeOf130
  v80 := Tryz.zeroValue130
  i0 := by kernel_rfl
  i2 := by kernel_rfl
  i3 := by kernel_rfl
  i4 := by kernel_rfl
  i5 := by kernel_rfl
  i9 := by kernel_rfl
  i20 := by kernel_rfl
  i21 := by kernel_rfl
  i37 := by kernel_rfl
  i46 := by kernel_rfl
  i51 := by kernel_rfl
  i53 := by kernel_rfl
  i75 := by kernel_rfl
  i76 := by kernel_rfl
  i80 := by kernel_rfl
  i85 := by kernel_rfl
  i127 := by kernel_rfl
  i143 := by kernel_rfl
  i145 := by kernel_rfl
  i167 := by kernel_rfl
  i168 := by kernel_rfl
  i171 := by kernel_rfl
  i173 := by kernel_rfl
  i175 := by kernel_rfl
  i210 := by kernel_rfl
  i212 := by kernel_rfl
  i232 := by kernel_rfl
  i233 := by kernel_rfl
  m15 := by kernel_rfl
  m16 := by kernel_rfl
  m17 := by kernel_rfl
  m18 := by kernel_rfl
  m19 := by kernel_rfl
  c0 := by kernel_rfl
  c2 := by kernel_rfl
  c3 := by kernel_rfl
  c4 := by kernel_rfl
  c5 := by kernel_rfl
  c9 := by kernel_rfl
  c20 := by kernel_rfl
  c21 := by kernel_rfl
  c37 := by kernel_rfl
  c46 := by kernel_rfl
  c51 := by kernel_rfl
  c53 := by kernel_rfl
  c75 := by kernel_rfl
  c76 := by kernel_rfl
  c80 := by kernel_rfl
  c85 := by kernel_rfl
  c127 := by kernel_rfl
  c143 := by kernel_rfl
  c145 := by kernel_rfl
  c167 := by kernel_rfl
  c168 := by kernel_rfl
  c171 := by kernel_rfl
  c173 := by kernel_rfl
  c175 := by kernel_rfl
  c210 := by kernel_rfl
  c212 := by kernel_rfl
  c213 := by kernel_rfl
  c232 := by kernel_rfl
  c233 := by kernel_rfl }
open Go.RowKit in
/-- strconv.Atoi, AT EVERY STRING THAT SPELLS AN int ('Lib.atoiAll .. = .ok v'; of whatever length: leading zeros count): v, AND NO ERROR. The world: as it was, or with the one new row that '[]byte(..)' lays. (LAID: no walk: one application.) -/
theorem Tryz.strconv_Atoi_ok (s : ByteArray) (hmax : s.size ≤ 9223372036854775806) (v : Int) (h : Lib.atoiAll s.data.toList = .ok v) (w : World) :
    Calls Tryz.prog 105 #[.string s] w fun e w' => e = .returned (.tuple #[.int .i64 v, .nilIface]) ∧ (w' = w ∨ ∃ t, w' = Lib.bytesWorld w 5 t) := Any.strconv_Atoi_ok Tryz.laysC172 s hmax v h w
open Go.RowKit in
/-- strconv.Atoi, AT EVERY NUMERAL THAT NO int HOLDS ('.range'): THE GREATEST OR THE LEAST int, BY THE SIGN ('Lib.atoiSat'), AND AN ERROR THAT IS NOT nil: a *NumError in a new block N: {Func: "Atoi", Num: s's bytes, Err: what the variable ErrRange holds}. Of what was there nothing has turned. (LAID: no walk: one application.) -/
theorem Tryz.strconv_Atoi_range (s : ByteArray) (hlim : s.size ≤ 281474976710656) (h : Lib.atoiAll s.data.toList = .range) (ev : Value) (w : World) (hv : w.cell? ⟨2, 0, none⟩ = some ev) (hev : ev = .nilIface ∨ ∃ te pe, ev = .iface te pe) :
    Calls Tryz.prog 105 #[.string s] w fun e w' => ∃ N, e = .returned (.tuple #[.int .i64 (Lib.atoiSat s.data.toList), .iface 230 (.pointer (some ⟨N, 0, none⟩))]) ∧ w.heap.size ≤ N ∧ w'.heap[N]? = some (.cells #[.string ⟨#[65, 116, 111, 105]⟩, .string s, ev] 260 (0, 0)) ∧ Below w.heap.size w w' := Any.strconv_Atoi_range Tryz.laysC172 s hlim h ev w hv hev
def Tryz.lays189_ren : Go.Shelf.Ren := ⟨fun | 189 => 318 | 125 => 320 | 257 => 319 | 128 => 330 | 129 => 156 | 294 => 321 | 295 => 322 | 296 => 323 | 297 => 324 | 298 => 325 | 299 => 326 | 216 => 327 | 300 => 328 | 301 => 329 | 328 => 331 | 329 => 332 | 330 => 333 | 331 => 334 | 332 => 335 | 215 => 311 | 343 => 336 | n => n, fun | 28 => 73 | 3 => 3 | 46 => 237 | 0 => 0 | 51 => 235 | 53 => 209 | 4 => 4 | 183 => 370 | 182 => 369 | 131 => 140 | 5 => 5 | 9 => 9 | 218 => 376 | 222 => 327 | 228 => 381 | 229 => 247 | n => n, fun | n => n⟩
theorem Tryz.lays189 : Go.Proofs.Lays.n189 Tryz.prog Tryz.lays189_ren := {
  mixed := by kernel_rfl
  f125 := Tryz.func320.trans (congrArg some (by kernel_rfl))
  f128 := Tryz.func330.trans (congrArg some (by kernel_rfl))
  f129 := Tryz.func156.trans (congrArg some (by kernel_rfl))
  f189 := Tryz.func318.trans (congrArg some (by kernel_rfl))
  f215 := Tryz.func311.trans (congrArg some (by kernel_rfl))
  f216 := Tryz.func327.trans (congrArg some (by kernel_rfl))
  f257 := Tryz.func319.trans (congrArg some (by kernel_rfl))
  f294 := Tryz.func321.trans (congrArg some (by kernel_rfl))
  f295 := Tryz.func322.trans (congrArg some (by kernel_rfl))
  f296 := Tryz.func323.trans (congrArg some (by kernel_rfl))
  f297 := Tryz.func324.trans (congrArg some (by kernel_rfl))
  f298 := Tryz.func325.trans (congrArg some (by kernel_rfl))
  f299 := Tryz.func326.trans (congrArg some (by kernel_rfl))
  f300 := Tryz.func328.trans (congrArg some (by kernel_rfl))
  f301 := Tryz.func329.trans (congrArg some (by kernel_rfl))
  f328 := Tryz.func331.trans (congrArg some (by kernel_rfl))
  f329 := Tryz.func332.trans (congrArg some (by kernel_rfl))
  f330 := Tryz.func333.trans (congrArg some (by kernel_rfl))
  f331 := Tryz.func334.trans (congrArg some (by kernel_rfl))
  f332 := Tryz.func335.trans (congrArg some (by kernel_rfl))
  f343 := Tryz.func336.trans (congrArg some (by kernel_rfl))
  t0 := Tryz.underlying0
  a0 := Tryz.isAgg0
  z0 := Tryz.sizeOf0
  v0 := Tryz.zeroValue0
  t3 := Tryz.underlying3
  a3 := Tryz.isAgg3
  z3 := Tryz.sizeOf3
  v3 := Tryz.zeroValue3
  t4 := Tryz.underlying4
  a4 := Tryz.isAgg4
  z4 := Tryz.sizeOf4
  v4 := Tryz.zeroValue4
  t5 := Tryz.underlying5
  a5 := Tryz.isAgg5
  z5 := Tryz.sizeOf5
  v5 := Tryz.zeroValue5
  t9 := Tryz.underlying9
  a9 := Tryz.isAgg9
  z9 := Tryz.sizeOf9
  v9 := Tryz.zeroValue9
  t28 := Tryz.underlying73
  a28 := Tryz.isAgg73
  z28 := Tryz.sizeOf73
  v28 := Tryz.zeroValue73
  t46 := Tryz.underlying237
  a46 := Tryz.isAgg237
  z46 := Tryz.sizeOf237
  v46 := Tryz.zeroValue237
  t51 := Tryz.underlying235
  a51 := Tryz.isAgg235
  z51 := Tryz.sizeOf235
  v51 := Tryz.zeroValue235
  t53 := Tryz.underlying209
  a53 := Tryz.isAgg209
  z53 := Tryz.sizeOf209
  v53 := Tryz.zeroValue209
  t131 := Tryz.underlying140
  a131 := Tryz.isAgg140
  z131 := Tryz.sizeOf140
  v131 := Tryz.zeroValue140
  t182 := Tryz.underlying369
  a182 := Tryz.isAgg369
  z182 := Tryz.sizeOf369
  v182 := Tryz.zeroValue369
  t183 := Tryz.underlying370
  a183 := Tryz.isAgg370
  z183 := Tryz.sizeOf370
  v183 := Tryz.zeroValue370
  t218 := Tryz.underlying376
  a218 := Tryz.isAgg376
  z218 := Tryz.sizeOf376
  v218 := Tryz.zeroValue376
  t222 := Tryz.underlying327
  a222 := Tryz.isAgg327
  z222 := Tryz.sizeOf327
  v222 := Tryz.zeroValue327
  t228 := Tryz.underlying381
  a228 := Tryz.isAgg381
  z228 := Tryz.sizeOf381
  v228 := Tryz.zeroValue381
  t229 := Tryz.underlying247
  a229 := Tryz.isAgg247
  z229 := Tryz.sizeOf247
  v229 := Tryz.zeroValue247 }
open Go.Sort Go.RowKit in
theorem Tryz.slices_Sort_int (blk off cap : Nat) (zs : List Int) (w : World) (hH : Holds (Value.int .i64) w blk off zs.toArray) (hblk : blk < w.heap.size) (hsz : zs.length < 4611686018427387904) :
    Calls Tryz.prog 318 #[.slice (some ⟨blk, off, none⟩) zs.length cap] w fun e w' =>
      e = .returned (.tuple #[]) ∧ ∃ n os, w' = grow (putRow (Value.int .i64) (Sort.ahead w n) blk off (zs.mergeSort fun x y => decide (x ≤ y)).toArray) os := Any.slices_Sort_int Tryz.lays189 blk off cap zs w hH hblk hsz
def Tryz.lays99_ren : Go.Shelf.Ren := ⟨fun | 99 => 128 | 206 => 154 | n => n, fun | 9 => 9 | 4 => 4 | 3 => 3 | n => n, fun | n => n⟩
theorem Tryz.lays99 : Go.Proofs.Lays.n99 Tryz.prog Tryz.lays99_ren := {
  mixed := by kernel_rfl
  f99 := Tryz.func128.trans (congrArg some (by kernel_rfl))
  f206 := Tryz.func154.trans (congrArg some (by kernel_rfl))
  t3 := Tryz.underlying3
  a3 := Tryz.isAgg3
  z3 := Tryz.sizeOf3
  v3 := Tryz.zeroValue3
  t4 := Tryz.underlying4
  a4 := Tryz.isAgg4
  z4 := Tryz.sizeOf4
  v4 := Tryz.zeroValue4
  t9 := Tryz.underlying9
  a9 := Tryz.isAgg9
  z9 := Tryz.sizeOf9
  v9 := Tryz.zeroValue9 }
open Go.RowKit Go.Lib in
/-- strings.HasPrefix: "HasPrefix reports whether the string s begins with prefix.": IT RETURNS 'Lib.hasPrefix s prefix'; the world is as it was. (LAID: no walk: one application.) -/
theorem Tryz.strings_HasPrefix (s p : ByteArray) (w : World) :
    Calls Tryz.prog 128 #[.string s, .string p] w fun e w' => e = .returned (.bool (Lib.hasPrefix s.data.toList p.data.toList)) ∧ w' = w := Any.strings_HasPrefix Tryz.lays99 s p w
def Tryz.lays101_ren : Go.Shelf.Ren := ⟨fun | 101 => 292 | 208 => 297 | 206 => 154 | n => n, fun | 9 => 9 | 4 => 4 | 3 => 3 | n => n, fun | n => n⟩
theorem Tryz.lays101 : Go.Proofs.Lays.n101 Tryz.prog Tryz.lays101_ren := {
  mixed := by kernel_rfl
  f101 := Tryz.func292.trans (congrArg some (by kernel_rfl))
  f206 := Tryz.func154.trans (congrArg some (by kernel_rfl))
  f208 := Tryz.func297.trans (congrArg some (by kernel_rfl))
  t3 := Tryz.underlying3
  a3 := Tryz.isAgg3
  z3 := Tryz.sizeOf3
  v3 := Tryz.zeroValue3
  t4 := Tryz.underlying4
  a4 := Tryz.isAgg4
  z4 := Tryz.sizeOf4
  v4 := Tryz.zeroValue4
  t9 := Tryz.underlying9
  a9 := Tryz.isAgg9
  z9 := Tryz.sizeOf9
  v9 := Tryz.zeroValue9 }
open Go.RowKit Go.Lib in
/-- strings.TrimPrefix: "TrimPrefix returns s without the provided leading prefix string. If s doesn't start with prefix, s is returned unchanged.": IT RETURNS 'Lib.trimPrefix s prefix'; the world is as it was. (LAID: no walk: one application.) -/
theorem Tryz.strings_TrimPrefix (s p : ByteArray) (w : World) :
    Calls Tryz.prog 292 #[.string s, .string p] w fun e w' => e = .returned (.string ⟨(Lib.trimPrefix s.data.toList p.data.toList).toArray⟩) ∧ w' = w := Any.strings_TrimPrefix Tryz.lays101 s p w
def Tryz.lays105_ren : Go.Shelf.Ren := ⟨fun | 105 => 146 | 212 => 169 | 99 => 128 | 165 => 170 | 166 => 171 | 170 => 172 | 169 => 173 | 263 => 185 | 264 => 186 | 206 => 154 | 240 => 187 | 241 => 188 | 276 => 198 | 277 => 199 | n => n, fun | 9 => 9 | 3 => 3 | 4 => 4 | 20 => 20 | 0 => 0 | 46 => 237 | 109 => 250 | 5 => 5 | 72 => 254 | 76 => 184 | 51 => 235 | 146 => 268 | 53 => 209 | 148 => 270 | 70 => 252 | 37 => 143 | 75 => 183 | 127 => 272 | 164 => 283 | 80 => 130 | n => n, fun | n => n⟩
theorem Tryz.lays105 : Go.Proofs.Lays.n105 Tryz.prog Tryz.lays105_ren := {
  mixed := by kernel_rfl
  f99 := Tryz.func128.trans (congrArg some (by kernel_rfl))
  f105 := Tryz.func146.trans (congrArg some (by kernel_rfl))
  f165 := Tryz.func170.trans (congrArg some (by kernel_rfl))
  f166 := Tryz.func171.trans (congrArg some (by kernel_rfl))
  f169 := Tryz.func173.trans (congrArg some (by kernel_rfl))
  f170 := Tryz.func172.trans (congrArg some (by kernel_rfl))
  f206 := Tryz.func154.trans (congrArg some (by kernel_rfl))
  f212 := Tryz.func169.trans (congrArg some (by kernel_rfl))
  f240 := Tryz.func187.trans (congrArg some (by kernel_rfl))
  f241 := Tryz.func188.trans (congrArg some (by kernel_rfl))
  f263 := Tryz.func185.trans (congrArg some (by kernel_rfl))
  f264 := Tryz.func186.trans (congrArg some (by kernel_rfl))
  f276 := Tryz.func198.trans (congrArg some (by kernel_rfl))
  f277 := Tryz.func199.trans (congrArg some (by kernel_rfl))
  t0 := Tryz.underlying0
  a0 := Tryz.isAgg0
  z0 := Tryz.sizeOf0
  v0 := Tryz.zeroValue0
  t3 := Tryz.underlying3
  a3 := Tryz.isAgg3
  z3 := Tryz.sizeOf3
  v3 := Tryz.zeroValue3
  t4 := Tryz.underlying4
  a4 := Tryz.isAgg4
  z4 := Tryz.sizeOf4
  v4 := Tryz.zeroValue4
  t5 := Tryz.underlying5
  a5 := Tryz.isAgg5
  z5 := Tryz.sizeOf5
  v5 := Tryz.zeroValue5
  t9 := Tryz.underlying9
  a9 := Tryz.isAgg9
  z9 := Tryz.sizeOf9
  v9 := Tryz.zeroValue9
  t20 := Tryz.underlying20
  a20 := Tryz.isAgg20
  z20 := Tryz.sizeOf20
  v20 := Tryz.zeroValue20
  t37 := Tryz.underlying143
  a37 := Tryz.isAgg143
  z37 := Tryz.sizeOf143
  v37 := Tryz.zeroValue143
  t46 := Tryz.underlying237
  a46 := Tryz.isAgg237
  z46 := Tryz.sizeOf237
  v46 := Tryz.zeroValue237
  t51 := Tryz.underlying235
  a51 := Tryz.isAgg235
  z51 := Tryz.sizeOf235
  v51 := Tryz.zeroValue235
  t53 := Tryz.underlying209
  a53 := Tryz.isAgg209
  z53 := Tryz.sizeOf209
  v53 := Tryz.zeroValue209
  t70 := Tryz.underlying252
  a70 := Tryz.isAgg252
  z70 := Tryz.sizeOf252
  v70 := Tryz.zeroValue252
  t72 := Tryz.underlying254
  a72 := Tryz.isAgg254
  z72 := Tryz.sizeOf254
  v72 := Tryz.zeroValue254
  t75 := Tryz.underlying183
  a75 := Tryz.isAgg183
  z75 := Tryz.sizeOf183
  v75 := Tryz.zeroValue183
  t76 := Tryz.underlying184
  a76 := Tryz.isAgg184
  z76 := Tryz.sizeOf184
  v76 := Tryz.zeroValue184
  t109 := Tryz.underlying250
  a109 := Tryz.isAgg250
  z109 := Tryz.sizeOf250
  v109 := Tryz.zeroValue250
  t127 := Tryz.underlying272
  a127 := Tryz.isAgg272
  z127 := Tryz.sizeOf272
  v127 := Tryz.zeroValue272
  t146 := Tryz.underlying268
  a146 := Tryz.isAgg268
  z146 := Tryz.sizeOf268
  v146 := Tryz.zeroValue268
  t148 := Tryz.underlying270
  a148 := Tryz.isAgg270
  z148 := Tryz.sizeOf270
  v148 := Tryz.zeroValue270
  t164 := Tryz.underlying283
  a164 := Tryz.isAgg283
  z164 := Tryz.sizeOf283
  v164 := Tryz.zeroValue283 }
theorem Tryz.Builder_Extra_105 : Builder.Extra Tryz.prog Tryz.lays105_ren := {
  sizeBuilder := by kernel_rfl
  liesBuilder := by kernel_rfl
  t5 := Tryz.underlying5
  a5 := Tryz.isAgg5
  z5 := Tryz.sizeOf5
  v5 := Tryz.zeroValue5
  infoByte := by kernel_rfl
  cellsByte := by kernel_rfl
  sizeByte := by kernel_rfl
  neB5 := by decide }
open Go.RowKit Go.Lib in
/-- THE MAIN CASE: at least two copies of a string that is not empty. (LAID: no walk: one application.) -/
theorem Tryz.strings_Repeat_main (s : ByteArray) (c : Nat) (w : World) (hc2 : 2 ≤ c) (hc : c ≤ 9223372036854775807) (hlen : s.size * c ≤ 140737488355328) (h0 : 0 < s.size) :
    Calls Tryz.prog 146 #[.string s, .int .i64 c] w fun e w' => e = .returned (.string ⟨(Lib.repeatL s.data.toList c).toArray⟩) ∧ Below w.heap.size w w' := Any.strings_Repeat_main Tryz.lays105 Tryz.Builder_Extra_105 s c w hc2 hc hlen h0
open Go.RowKit Go.Lib in
theorem Tryz.strings_Repeat_zero (s : ByteArray) (w : World) :
    Calls Tryz.prog 146 #[.string s, .int .i64 0] w fun e w' => e = .returned (.string ⟨#[]⟩) ∧ w' = w := Any.strings_Repeat_zero Tryz.lays105 s w
open Go.RowKit Go.Lib in
theorem Tryz.strings_Repeat_one (s : ByteArray) (w : World) :
    Calls Tryz.prog 146 #[.string s, .int .i64 1] w fun e w' => e = .returned (.string s) ∧ w' = w := Any.strings_Repeat_one Tryz.lays105 s w
open Go.RowKit Go.Lib in
/-- Copies of the empty string. (LAID: no walk: one application.) -/
theorem Tryz.strings_Repeat_empty (s : ByteArray) (c : Nat) (w : World) (hc2 : 2 ≤ c) (hc : c ≤ 9223372036854775807) (h0 : s.size = 0) :
    Calls Tryz.prog 146 #[.string s, .int .i64 c] w fun e w' => e = .returned (.string ⟨#[]⟩) ∧ w' = w := Any.strings_Repeat_empty Tryz.lays105 s c w hc2 hc h0
open Go.RowKit Go.Lib in
/-- **strings.Repeat: count ≥ 0, the result within one allocation: count copies of s.** (LAID: no walk: one application.) -/
theorem Tryz.strings_Repeat (s : ByteArray) (c : Nat) (w : World) (hc : c ≤ 9223372036854775807) (hlen : s.size * c ≤ 140737488355328) :
    Calls Tryz.prog 146 #[.string s, .int .i64 c] w fun e w' => e = .returned (.string ⟨(Lib.repeatL s.data.toList c).toArray⟩) ∧ Below w.heap.size w w' := Any.strings_Repeat Tryz.lays105 Tryz.Builder_Extra_105 s c w hc hlen
def Tryz.lays109_ren : Go.Shelf.Ren := ⟨fun | 109 => 104 | n => n, fun | 31 => 41 | 9 => 9 | 3 => 3 | 0 => 0 | 4 => 4 | n => n, fun | n => n⟩
theorem Tryz.lays109 : Go.Proofs.Lays.n109 Tryz.prog Tryz.lays109_ren := {
  mixed := by kernel_rfl
  f109 := Tryz.func104.trans (congrArg some (by kernel_rfl))
  t0 := Tryz.underlying0
  a0 := Tryz.isAgg0
  z0 := Tryz.sizeOf0
  v0 := Tryz.zeroValue0
  t3 := Tryz.underlying3
  a3 := Tryz.isAgg3
  z3 := Tryz.sizeOf3
  v3 := Tryz.zeroValue3
  t4 := Tryz.underlying4
  a4 := Tryz.isAgg4
  z4 := Tryz.sizeOf4
  v4 := Tryz.zeroValue4
  t9 := Tryz.underlying9
  a9 := Tryz.isAgg9
  z9 := Tryz.sizeOf9
  v9 := Tryz.zeroValue9
  t31 := Tryz.underlying41
  a31 := Tryz.isAgg41
  z31 := Tryz.sizeOf41
  v31 := Tryz.zeroValue41 }
open Go.Lib in
/-- slices.Index at []string: "Index returns the index of the first occurrence of v in s, or -1 if not present.": IT RETURNS 'Lib.idxOfS (the elements) v'; the world is as it was. 'zs': what the cells behind the slice's address hold (its spare capacity too, if you have it); 'zs.take n': its elements. (LAID: no walk: one application.) -/
theorem Tryz.slices_Index_string (b off n c : Nat) (zs : List ByteArray) (x : ByteArray) (w : World) (hz : n ≤ zs.length) (hbig : n ≤ 9223372036854775807) (hc : ∀ j, j < zs.length → w.cell? ⟨b, off + j, none⟩ = some (.string (zs.getD j ByteArray.empty))) :
    Calls Tryz.prog 104 #[.slice (some ⟨b, off, none⟩) n c, .string x] w fun e w' => e = .returned (.int .i64 (Lib.idxOfS (zs.take n) x)) ∧ w' = w := Any.slices_Index_string Tryz.lays109 b off n c zs x w hz hbig hc
open Go.Lib in
/-- The same at a slice of length 0, a nil one too: no cell is known, none is asked for. (LAID: no walk: one application.) -/
theorem Tryz.slices_Index_string_empty (a : Option Addr) (c : Nat) (x : ByteArray) (w : World) :
    Calls Tryz.prog 104 #[.slice a 0 c, .string x] w fun e w' => e = .returned (.int .i64 (Lib.idxOfS [] x)) ∧ w' = w := Any.slices_Index_string_empty Tryz.lays109 a c x w
def Tryz.lays110_ren : Go.Shelf.Ren := ⟨fun | 110 => 79 | 109 => 104 | n => n, fun | 31 => 41 | 9 => 9 | 4 => 4 | 3 => 3 | 0 => 0 | n => n, fun | n => n⟩
theorem Tryz.lays110 : Go.Proofs.Lays.n110 Tryz.prog Tryz.lays110_ren := {
  mixed := by kernel_rfl
  f109 := Tryz.func104.trans (congrArg some (by kernel_rfl))
  f110 := Tryz.func79.trans (congrArg some (by kernel_rfl))
  t0 := Tryz.underlying0
  a0 := Tryz.isAgg0
  z0 := Tryz.sizeOf0
  v0 := Tryz.zeroValue0
  t3 := Tryz.underlying3
  a3 := Tryz.isAgg3
  z3 := Tryz.sizeOf3
  v3 := Tryz.zeroValue3
  t4 := Tryz.underlying4
  a4 := Tryz.isAgg4
  z4 := Tryz.sizeOf4
  v4 := Tryz.zeroValue4
  t9 := Tryz.underlying9
  a9 := Tryz.isAgg9
  z9 := Tryz.sizeOf9
  v9 := Tryz.zeroValue9
  t31 := Tryz.underlying41
  a31 := Tryz.isAgg41
  z31 := Tryz.sizeOf41
  v31 := Tryz.zeroValue41 }
open Go.Lib in
/-- slices.Contains at []string: "Contains reports whether v is present in s.": IT RETURNS 'Lib.containsS (the elements) v', which is true just where v is among them ('Lib.containsS_iff'); the world is as it was. ITS CALLEE slices.Index IS MET BY ITS OWN CONTRACT OFF THE SHELF (lay that first): no loop is walked here. (LAID: no walk: one application.) -/
theorem Tryz.slices_Contains_string (b off n c : Nat) (zs : List ByteArray) (x : ByteArray) (w : World) (hz : n ≤ zs.length) (hbig : n ≤ 9223372036854775807) (hc : ∀ j, j < zs.length → w.cell? ⟨b, off + j, none⟩ = some (.string (zs.getD j ByteArray.empty))) :
    Calls Tryz.prog 79 #[.slice (some ⟨b, off, none⟩) n c, .string x] w fun e w' => e = .returned (.bool (Lib.containsS (zs.take n) x)) ∧ w' = w := Any.slices_Contains_string Tryz.lays110 b off n c zs x w hz hbig hc
open Go.Lib in
/-- The same at a slice of length 0, a nil one too. (LAID: no walk: one application.) -/
theorem Tryz.slices_Contains_string_empty (a : Option Addr) (c : Nat) (x : ByteArray) (w : World) :
    Calls Tryz.prog 79 #[.slice a 0 c, .string x] w fun e w' => e = .returned (.bool false) ∧ w' = w := Any.slices_Contains_string_empty Tryz.lays110 a c x w
def Tryz.lays193_ren : Go.Shelf.Ren := ⟨fun | 193 => 91 | n => n, fun | 31 => 41 | 9 => 9 | 4 => 4 | 3 => 3 | 0 => 0 | n => n, fun | n => n⟩
theorem Tryz.lays193 : Go.Proofs.Lays.n193 Tryz.prog Tryz.lays193_ren := {
  mixed := by kernel_rfl
  f193 := Tryz.func91.trans (congrArg some (by kernel_rfl))
  t0 := Tryz.underlying0
  a0 := Tryz.isAgg0
  z0 := Tryz.sizeOf0
  v0 := Tryz.zeroValue0
  t3 := Tryz.underlying3
  a3 := Tryz.isAgg3
  z3 := Tryz.sizeOf3
  v3 := Tryz.zeroValue3
  t4 := Tryz.underlying4
  a4 := Tryz.isAgg4
  z4 := Tryz.sizeOf4
  v4 := Tryz.zeroValue4
  t9 := Tryz.underlying9
  a9 := Tryz.isAgg9
  z9 := Tryz.sizeOf9
  v9 := Tryz.zeroValue9
  t31 := Tryz.underlying41
  a31 := Tryz.isAgg41
  z31 := Tryz.sizeOf41
  v31 := Tryz.zeroValue41 }
open Go.RowKit Go.Lib in
/-- slices.Equal at []string: "Equal reports whether two slices are equal: the same length and all elements equal. If the lengths are different, Equal returns false. Otherwise, the elements are compared in increasing index order, and the comparison stops at the first unequal pair. Empty and nil slices are considered equal.": IT RETURNS WHETHER THE TWO LISTS OF ELEMENTS ARE ONE; the world is as it was but for the count of draws (the test 's1[i] != s2[i]' has two reads, whose order the model draws, once a round). 'xs', 'ys': what the cells behind the two addresses hold (the spare capacity too, if you have it); 'xs.take n', 'ys.take m': the elements. THE TWO SLICES MAY OVERLAP. (LAID: no walk: one application.) -/
theorem Tryz.slices_Equal_string (b1 o1 n c b2 o2 m d : Nat) (xs ys : List ByteArray) (w : World) (hx : n ≤ xs.length) (hy : m ≤ ys.length) (hbig : n ≤ 9223372036854775807) (hbig2 : m ≤ 9223372036854775807) (hc1 : ∀ j, j < xs.length → w.cell? ⟨b1, o1 + j, none⟩ = some (.string (xs.getD j ByteArray.empty))) (hc2 : ∀ j, j < ys.length → w.cell? ⟨b2, o2 + j, none⟩ = some (.string (ys.getD j ByteArray.empty))) :
    Calls Tryz.prog 91 #[.slice (some ⟨b1, o1, none⟩) n c, .slice (some ⟨b2, o2, none⟩) m d] w fun e w' => e = .returned (.bool (decide (xs.take n = ys.take m))) ∧ ∃ q, w' = w.drewN q := Any.slices_Equal_string Tryz.lays193 b1 o1 n c b2 o2 m d xs ys w hx hy hbig hbig2 hc1 hc2
open Go.RowKit Go.Lib in
/-- The same where the first is of length 0 (a nil one too): no cell is asked for. (LAID: no walk: one application.) -/
theorem Tryz.slices_Equal_string_empty (a1 a2 : Option Addr) (c m d : Nat) (w : World) (hbig2 : m ≤ 9223372036854775807) :
    Calls Tryz.prog 91 #[.slice a1 0 c, .slice a2 m d] w fun e w' => e = .returned (.bool (decide (m = 0))) ∧ w' = w := Any.slices_Equal_string_empty Tryz.lays193 a1 a2 c m d w hbig2
def Tryz.laysNm216_ren : Go.Shelf.Ren := ⟨fun | 16 => 82 | n => n, fun | 24 => 41 | 9 => 9 | 4 => 4 | n => n, fun | n => n⟩
theorem Tryz.laysNm216 : Go.Proofs.Lays2.n16 Tryz.prog Tryz.laysNm216_ren := {
  mixed := by kernel_rfl
  f16 := Tryz.func82.trans (congrArg some (by kernel_rfl))
  t4 := Tryz.underlying4
  a4 := Tryz.isAgg4
  z4 := Tryz.sizeOf4
  v4 := Tryz.zeroValue4
  t9 := Tryz.underlying9
  a9 := Tryz.isAgg9
  z9 := Tryz.sizeOf9
  v9 := Tryz.zeroValue9
  t24 := Tryz.underlying41
  a24 := Tryz.isAgg41
  z24 := Tryz.sizeOf41
  v24 := Tryz.zeroValue41
  i9 := by kernel_rfl }
open Go.RowKit Go.Lib in
/-- slices.Clone at []string: "Clone returns a copy of the slice. The elements are copied using assignment, so this is a shallow clone. The result may have additional unused capacity. The result preserves the nilness of s.": OF A SLICE THAT IS NOT nil IT RETURNS A SLICE THAT IS NOT nil, OF THE SAME ELEMENTS, IN MEMORY OF THE CALL's OWN: in the how-to's words (6f): 'w'.ownsRow B e 1 v' n cells': v' begins at the head of a row among the blocks from B on (B: the heap's size at the call), not frozen, whose first cells are the elements · 'Below B w w'': below B all is as it was. The capacity is whatever the run-time gives. 'zs': what the cells behind the slice's address hold; 'zs.take n': its elements. (LAID: no walk: one application.) -/
theorem Tryz.slices_Clone_string (b off n c : Nat) (zs : List ByteArray) (w : World) (hz : n ≤ zs.length) (hbig : n * 16 ≤ 140737488355328) (hc : ∀ j, j < zs.length → w.cell? ⟨b, off + j, none⟩ = some (.string (zs.getD j ByteArray.empty))) :
    Calls Tryz.prog 82 #[.slice (some ⟨b, off, none⟩) n c] w fun e w' => ∃ v', e = .returned v' ∧ w'.ownsRow w.heap.size 9 1 v' n ((zs.take n).map (Value.string)) ∧ v' ≠ .slice none 0 0 ∧ Below w.heap.size w w' := Any.slices_Clone_string Tryz.laysNm216 b off n c zs w hz hbig hc
open Go.RowKit Go.Lib in
/-- The same at nil: nil comes back; the world is as it was. (LAID: no walk: one application.) -/
theorem Tryz.slices_Clone_string_nil (n c : Nat) (w : World) :
    Calls Tryz.prog 82 #[.slice none n c] w fun e w' => e = .returned (.slice none 0 0) ∧ w' = w := Any.slices_Clone_string_nil Tryz.laysNm216 n c w
open Go.RowKit Go.Lib in
/-- The same at a slice of length 0 that is not nil, WHATEVER ITS ADDRESS (no cell is asked for): a slice that is not nil and owns nothing comes back. (LAID: no walk: one application.) -/
theorem Tryz.slices_Clone_string_zero (a : Addr) (c : Nat) (w : World) :
    Calls Tryz.prog 82 #[.slice (some a) 0 c] w fun e w' => ∃ v', e = .returned v' ∧ w'.ownsRow w.heap.size 9 1 v' 0 [] ∧ v' ≠ .slice none 0 0 ∧ Below w.heap.size w w' := Any.slices_Clone_string_zero Tryz.laysNm216 a c w
open Go.RowKit Go.Sort in
/-- .. and plain. (LAID: no walk: one application.) -/
theorem Tryz.slices_Sort_int_none (p : Option Addr) (cap : Nat) (w : World) :
    Calls Tryz.prog 318 #[.slice p 0 cap] w fun e w' => e = .returned (.tuple #[]) ∧ w' = w := Any.slices_Sort_int_none Tryz.lays189 p cap w
open Go.RowKit Go.Lib in
theorem Tryz.slices_Equal_string_lens (a1 a2 : Option Addr) (n c m d : Nat) (w : World) (hnm : n ≠ m) :
    Calls Tryz.prog 91 #[.slice a1 n c, .slice a2 m d] w fun e w' => e = .returned (.bool false) ∧ w' = w := Any.slices_Equal_string_lens Tryz.lays193 a1 a2 n c m d w hnm
end Go.Proofs
