/-
  DERIVED: THE SHELF's CONTRACTS AT THIS DUMP, IN PLAIN WORDS (tools/lay-plain.mjs out of 'TryzShelf.lean', which tools/lay-shelf.mjs wrote): THE SAME DECLARATIONS UNDER THE SAME NAMES: 'import', 'namespace', 'open', 'def', 'theorem' AND NOTHING ELSE: no command of the shelf's: FOR A HAND-IN. Each laying: the table of numbers ('.._ren') and one theorem, a field a fact of the dump's own or the kernel's comparison; each contract: ONE APPLICATION.
-/
import Derived.Shelf.Strings.Builder1
import Derived.Shelf.Strings.Trim
import Derived.Shelf.Strings.SlTrimAscii
import Derived.Shelf.Small.Utf8
import Derived.Shelf.Small.Bits
import Derived.Shelf.Small.Strs
import Derived.Shelf.Strings.BuilderF
import Derived.Shelf.Strings.BuilderK
import Derived.Shelf.Strconv.Atoi
import Derived.Shelf.Strconv.Itoa0
import Derived.Shelf.Strconv.Itoa1
import Derived.Shelf.LaysM
import Derived.Shelf.Strconv.Itoa2
import Derived.Shelf.Strconv.Itoa3
import Derived.Shelf.Strconv.AtoiErrFast
import Derived.Shelf.Strconv.ParseIntEmpty
import Derived.Shelf.Strconv.AtoiFail
import Derived.Shelf.Strconv.Clone
import Derived.Shelf.Strconv.SyntaxError
import Derived.Shelf.LaysC
import Derived.Shelf.Strconv.ToError
import Derived.Shelf.Strconv.Lower
import Derived.Shelf.Strconv.ParseUint10
import Derived.Shelf.Strconv.ParseUint10Empty
import Derived.Shelf.Strconv.ParseUint10Any
import Derived.Shelf.Strconv.ParseInt10
import Derived.Shelf.Strconv.AtoiLong
import Derived.Shelf.Strconv.AtoiInnerAll
import Derived.Shelf.Strconv.RangeError
import Derived.Shelf.Strconv.ToErrorRange
import Derived.Shelf.Strconv.AtoiAll
import Derived.Shelf.Strconv.ErrVarAll
import Derived.Shelf.Strings.Search1
import Derived.Shelf.Strings.Search2
import Derived.Shelf.Strings.Cut
import Derived.Shelf.Strings.Shaped
import Derived.Shelf.Strings.Prefix
import Derived.Shelf.Unicode.Decode
import Derived.Shelf.Strings.Runes
import Derived.Shelf.Strings.AsciiSet
import Derived.Shelf.Unicode.DecodeSlow
import Derived.Shelf.Unicode.DecodeAny
import Derived.Shelf.Unicode.DecodeLast
import Derived.Test.YtlmolhblmlojnaaGreatDoorProg
namespace Go.Proofs
open Go.Shelf
def Tryz.lays169_ren : Go.Shelf.Ren := ⟨fun | 169 => 192 | n => n, fun | 70 => 300 | 9 => 9 | 0 => 0 | 72 => 303 | 37 => 301 | 127 => 334 | 3 => 3 | 5 => 5 | n => n, fun | n => n⟩
theorem Tryz.lays169 : Go.Proofs.Lays.n169 Tryz.prog Tryz.lays169_ren := {
  mixed := by kernel_rfl
  f169 := Tryz.func192.trans (congrArg some (by kernel_rfl))
  t0 := Tryz.underlying0
  a0 := Tryz.isAgg0
  z0 := Tryz.sizeOf0
  v0 := Tryz.zeroValue0
  t3 := Tryz.underlying3
  a3 := Tryz.isAgg3
  z3 := Tryz.sizeOf3
  v3 := Tryz.zeroValue3
  t9 := Tryz.underlying9
  a9 := Tryz.isAgg9
  z9 := Tryz.sizeOf9
  v9 := Tryz.zeroValue9
  t37 := Tryz.underlying301
  a37 := Tryz.isAgg301
  z37 := Tryz.sizeOf301
  v37 := Tryz.zeroValue301
  t70 := Tryz.underlying300
  a70 := Tryz.isAgg300
  z70 := Tryz.sizeOf300
  v70 := Tryz.zeroValue300
  t72 := Tryz.underlying303
  a72 := Tryz.isAgg303
  z72 := Tryz.sizeOf303
  v72 := Tryz.zeroValue303
  t127 := Tryz.underlying334
  a127 := Tryz.isAgg334
  z127 := Tryz.sizeOf334
  v127 := Tryz.zeroValue334 }
theorem Tryz.Builder_Extra_169 : Builder.Extra Tryz.prog Tryz.lays169_ren := {
  sizeBuilder := by kernel_rfl
  liesBuilder := by kernel_rfl
  t5 := Tryz.underlying5
  a5 := Tryz.isAgg5
  z5 := Tryz.sizeOf5
  v5 := Tryz.zeroValue5
  infoByte := by kernel_rfl
  cellsByte := by kernel_rfl
  sizeByte := by kernel_rfl
  neB5 := by decide }
open Go.RowKit in
theorem Tryz.Builder_String_any (B b : Nat) (l : List UInt8) (w : World) (h : Lib.IsBuilder 303 5 B b (Lib.byteCells l) w) (hBw : B ≤ w.heap.size) :
    Calls Tryz.prog 192 #[.pointer (some ⟨b, 0, none⟩)] w fun e w' => e = .returned (.string ⟨l.toArray⟩) ∧ Below B w w' := Any.Builder_String_any Tryz.lays169 Tryz.Builder_Extra_169 B b l w h hBw
def Tryz.lays160_ren : Go.Shelf.Ren := ⟨fun | 160 => 137 | 232 => 177 | 231 => 176 | 227 => 178 | 234 => 180 | 233 => 179 | 236 => 182 | 235 => 181 | 228 => 218 | 271 => 221 | 151 => 220 | 197 => 219 | 120 => 244 | 152 => 243 | 260 => 242 | 137 => 259 | 119 => 260 | 224 => 240 | 225 => 239 | 217 => 238 | 266 => 257 | n => n, fun | 9 => 9 | 4 => 4 | 3 => 3 | 5 => 5 | 117 => 287 | 116 => 286 | 0 => 0 | 124 => 290 | 21 => 21 | 105 => 329 | 46 => 316 | 119 => 360 | 139 => 363 | 138 => 362 | n => n, fun | 3 => 2 | 4 => 3 | n => n⟩
theorem Tryz.lays160 : Go.Proofs.Lays.n160 Tryz.prog Tryz.lays160_ren := {
  mixed := by kernel_rfl
  f119 := Tryz.func260.trans (congrArg some (by kernel_rfl))
  f120 := Tryz.func244.trans (congrArg some (by kernel_rfl))
  f137 := Tryz.func259.trans (congrArg some (by kernel_rfl))
  f151 := Tryz.func220.trans (congrArg some (by kernel_rfl))
  f152 := Tryz.func243.trans (congrArg some (by kernel_rfl))
  f160 := Tryz.func137.trans (congrArg some (by kernel_rfl))
  f197 := Tryz.func219.trans (congrArg some (by kernel_rfl))
  f217 := Tryz.func238.trans (congrArg some (by kernel_rfl))
  f224 := Tryz.func240.trans (congrArg some (by kernel_rfl))
  f225 := Tryz.func239.trans (congrArg some (by kernel_rfl))
  f227 := Tryz.func178.trans (congrArg some (by kernel_rfl))
  f228 := Tryz.func218.trans (congrArg some (by kernel_rfl))
  f231 := Tryz.func176.trans (congrArg some (by kernel_rfl))
  f232 := Tryz.func177.trans (congrArg some (by kernel_rfl))
  f233 := Tryz.func179.trans (congrArg some (by kernel_rfl))
  f234 := Tryz.func180.trans (congrArg some (by kernel_rfl))
  f235 := Tryz.func181.trans (congrArg some (by kernel_rfl))
  f236 := Tryz.func182.trans (congrArg some (by kernel_rfl))
  f260 := Tryz.func242.trans (congrArg some (by kernel_rfl))
  f266 := Tryz.func257.trans (congrArg some (by kernel_rfl))
  f271 := Tryz.func221.trans (congrArg some (by kernel_rfl))
  t0 := Tryz.underlying0
  a0 := Tryz.isAgg0
  z0 := Tryz.sizeOf0
  v0 := Tryz.zeroValue0
  t3 := Tryz.underlying3
  a3 := Tryz.isAgg3
  z3 := Tryz.sizeOf3
  v3 := Tryz.zeroValue3
  t4 := Tryz.underlying4
  a4 := Tryz.isAgg4
  z4 := Tryz.sizeOf4
  v4 := Tryz.zeroValue4
  t5 := Tryz.underlying5
  a5 := Tryz.isAgg5
  z5 := Tryz.sizeOf5
  v5 := Tryz.zeroValue5
  t9 := Tryz.underlying9
  a9 := Tryz.isAgg9
  z9 := Tryz.sizeOf9
  v9 := Tryz.zeroValue9
  t21 := Tryz.underlying21
  a21 := Tryz.isAgg21
  z21 := Tryz.sizeOf21
  v21 := Tryz.zeroValue21
  t46 := Tryz.underlying316
  a46 := Tryz.isAgg316
  z46 := Tryz.sizeOf316
  v46 := Tryz.zeroValue316
  t105 := Tryz.underlying329
  a105 := Tryz.isAgg329
  z105 := Tryz.sizeOf329
  v105 := Tryz.zeroValue329
  t116 := Tryz.underlying286
  a116 := Tryz.isAgg286
  z116 := Tryz.sizeOf286
  t117 := Tryz.underlying287
  a117 := Tryz.isAgg287
  z117 := Tryz.sizeOf287
  v117 := Tryz.zeroValue287
  t119 := Tryz.underlying360
  a119 := Tryz.isAgg360
  z119 := Tryz.sizeOf360
  t124 := Tryz.underlying290
  a124 := Tryz.isAgg290
  z124 := Tryz.sizeOf290
  v124 := Tryz.zeroValue290
  t138 := Tryz.underlying362
  a138 := Tryz.isAgg362
  z138 := Tryz.sizeOf362
  v138 := Tryz.zeroValue362
  t139 := Tryz.underlying363
  a139 := Tryz.isAgg363
  z139 := Tryz.sizeOf363
  v139 := Tryz.zeroValue363
  g3 := by kernel_rfl
  g4 := by kernel_rfl }
def Tryz.lays106_ren : Go.Shelf.Ren := ⟨fun | 106 => 183 | 213 => 222 | 265 => 245 | n => n, fun | 9 => 9 | 3 => 3 | n => n, fun | n => n⟩
theorem Tryz.lays106 : Go.Proofs.Lays.n106 Tryz.prog Tryz.lays106_ren := {
  mixed := by kernel_rfl
  f106 := Tryz.func183.trans (congrArg some (by kernel_rfl))
  f213 := Tryz.func222.trans (congrArg some (by kernel_rfl))
  f265 := Tryz.func245.trans (congrArg some (by kernel_rfl))
  t3 := Tryz.underlying3
  a3 := Tryz.isAgg3
  z3 := Tryz.sizeOf3
  v3 := Tryz.zeroValue3
  t9 := Tryz.underlying9
  a9 := Tryz.isAgg9
  z9 := Tryz.sizeOf9
  v9 := Tryz.zeroValue9 }
open Go.RowKit in
theorem Tryz.strings_Compare (a b : ByteArray) (w : World) :
    Calls Tryz.prog 183 #[.string a, .string b] w fun e w' => e = .returned (.int .i64 (Lib.compareBytes a.data.toList b.data.toList)) ∧ w' = w := Any.strings_Compare Tryz.lays106 a b w
def Tryz.laysM171_ren : Go.Shelf.Ren := ⟨fun | 171 => 186 | 243 => 225 | 246 => 251 | 283 => 264 | 284 => 265 | 285 => 266 | 286 => 267 | 129 => 271 | 317 => 270 | 318 => 272 | 319 => 273 | 320 => 274 | 337 => 275 | 338 => 276 | n => n, fun | 3 => 3 | 9 => 9 | 2 => 2 | 4 => 4 | 171 => 371 | 0 => 0 | 53 => 340 | 37 => 301 | 5 => 5 | 173 => 374 | 212 => 382 | 51 => 337 | 20 => 20 | 213 => 383 | 46 => 316 | 232 => 386 | 233 => 387 | n => n, fun | 17 => 6 | 18 => 7 | 19 => 8 | n => n⟩
theorem Tryz.laysM171 : Go.Proofs.LaysM.n171 Tryz.prog Tryz.laysM171_ren := {
  mixed := by kernel_rfl
  f129 := Tryz.func271.trans (congrArg some (by kernel_rfl))
  f171 := Tryz.func186.trans (congrArg some (by kernel_rfl))
  f243 := Tryz.func225.trans (congrArg some (by kernel_rfl))
  f246 := Tryz.func251.trans (congrArg some (by kernel_rfl))
  f283 := Tryz.func264.trans (congrArg some (by kernel_rfl))
  f284 := Tryz.func265.trans (congrArg some (by kernel_rfl))
  f285 := Tryz.func266.trans (congrArg some (by kernel_rfl))
  f286 := Tryz.func267.trans (congrArg some (by kernel_rfl))
  f317 := Tryz.func270.trans (congrArg some (by kernel_rfl))
  f318 := Tryz.func272.trans (congrArg some (by kernel_rfl))
  f319 := Tryz.func273.trans (congrArg some (by kernel_rfl))
  f320 := Tryz.func274.trans (congrArg some (by kernel_rfl))
  f337 := Tryz.func275.trans (congrArg some (by kernel_rfl))
  f338 := Tryz.func276.trans (congrArg some (by kernel_rfl))
  t0 := Tryz.underlying0
  a0 := Tryz.isAgg0
  z0 := Tryz.sizeOf0
  v0 := Tryz.zeroValue0
  t2 := Tryz.underlying2
  a2 := Tryz.isAgg2
  z2 := Tryz.sizeOf2
  v2 := Tryz.zeroValue2
  t3 := Tryz.underlying3
  a3 := Tryz.isAgg3
  z3 := Tryz.sizeOf3
  v3 := Tryz.zeroValue3
  t4 := Tryz.underlying4
  a4 := Tryz.isAgg4
  z4 := Tryz.sizeOf4
  v4 := Tryz.zeroValue4
  t5 := Tryz.underlying5
  a5 := Tryz.isAgg5
  z5 := Tryz.sizeOf5
  v5 := Tryz.zeroValue5
  t9 := Tryz.underlying9
  a9 := Tryz.isAgg9
  z9 := Tryz.sizeOf9
  v9 := Tryz.zeroValue9
  t20 := Tryz.underlying20
  a20 := Tryz.isAgg20
  z20 := Tryz.sizeOf20
  v20 := Tryz.zeroValue20
  t37 := Tryz.underlying301
  a37 := Tryz.isAgg301
  z37 := Tryz.sizeOf301
  v37 := Tryz.zeroValue301
  t46 := Tryz.underlying316
  a46 := Tryz.isAgg316
  z46 := Tryz.sizeOf316
  v46 := Tryz.zeroValue316
  t51 := Tryz.underlying337
  a51 := Tryz.isAgg337
  z51 := Tryz.sizeOf337
  v51 := Tryz.zeroValue337
  t53 := Tryz.underlying340
  a53 := Tryz.isAgg340
  z53 := Tryz.sizeOf340
  v53 := Tryz.zeroValue340
  t171 := Tryz.underlying371
  a171 := Tryz.isAgg371
  z171 := Tryz.sizeOf371
  v171 := Tryz.zeroValue371
  t173 := Tryz.underlying374
  a173 := Tryz.isAgg374
  z173 := Tryz.sizeOf374
  v173 := Tryz.zeroValue374
  t212 := Tryz.underlying382
  a212 := Tryz.isAgg382
  z212 := Tryz.sizeOf382
  v212 := Tryz.zeroValue382
  t213 := Tryz.underlying383
  a213 := Tryz.isAgg383
  z213 := Tryz.sizeOf383
  t232 := Tryz.underlying386
  a232 := Tryz.isAgg386
  z232 := Tryz.sizeOf386
  v232 := Tryz.zeroValue386
  t233 := Tryz.underlying387
  a233 := Tryz.isAgg387
  z233 := Tryz.sizeOf387
  v233 := Tryz.zeroValue387
  g17 := by kernel_rfl
  g18 := by kernel_rfl
  g19 := by kernel_rfl
  i0 := by kernel_rfl
  i2 := by kernel_rfl
  i3 := by kernel_rfl
  i4 := by kernel_rfl
  i5 := by kernel_rfl
  i9 := by kernel_rfl
  i20 := by kernel_rfl
  i37 := by kernel_rfl
  i46 := by kernel_rfl
  i51 := by kernel_rfl
  i53 := by kernel_rfl
  i171 := by kernel_rfl
  i173 := by kernel_rfl
  i212 := by kernel_rfl
  i232 := by kernel_rfl
  i233 := by kernel_rfl
  m17 := by kernel_rfl
  m18 := by kernel_rfl
  m19 := by kernel_rfl }
open Go.RowKit Go.Sort Go.Lib in
theorem Tryz.strconv_Itoa (n : Int) (h0 : -9223372036854775808 ≤ n) (h1 : n ≤ 9223372036854775807) (w : World) (htab : Lib.TabIs Tryz.prog w "internal/strconv.uint64pow10" .u64 Lib.pow10Tab) :
    Calls Tryz.prog 186 #[.int .i64 n] w fun e w' => e = .returned (.string ⟨(Lib.itoa n).toArray⟩) ∧ ∃ k os, w' = grow (w.drewN k) os := Any.strconv_Itoa Tryz.laysM171 n h0 h1 w htab
def Tryz.laysC172_ren : Go.Shelf.Ren := ⟨fun | 172 => 184 | 244 => 223 | 245 => 224 | 247 => 246 | 279 => 247 | 280 => 248 | 281 => 249 | 282 => 250 | 287 => 261 | 316 => 262 | 171 => 186 | 205 => 263 | 321 => 268 | 322 => 269 | 243 => 225 | 246 => 251 | 283 => 264 | 284 => 265 | 285 => 266 | 286 => 267 | 129 => 271 | 317 => 270 | 318 => 272 | 319 => 273 | 320 => 274 | 337 => 275 | 338 => 276 | n => n, fun | 9 => 9 | 3 => 3 | 75 => 292 | 76 => 293 | 4 => 4 | 5 => 5 | 167 => 347 | 37 => 301 | 0 => 0 | 85 => 348 | 2 => 2 | 168 => 350 | 53 => 340 | 175 => 365 | 46 => 316 | 210 => 369 | 127 => 334 | 145 => 380 | 143 => 378 | 21 => 21 | 171 => 371 | 173 => 374 | 212 => 382 | 51 => 337 | 20 => 20 | 213 => 383 | 232 => 386 | 233 => 387 | 80 => 305 | n => n, fun | 15 => 4 | 16 => 5 | 17 => 6 | 18 => 7 | 19 => 8 | n => n⟩
theorem Tryz.laysC172 : Go.Proofs.LaysC.n172 Tryz.prog Tryz.laysC172_ren := {
  mixed := by kernel_rfl
  f129 := Tryz.func271.trans (congrArg some (by kernel_rfl))
  f171 := Tryz.func186.trans (congrArg some (by kernel_rfl))
  f172 := Tryz.func184.trans (congrArg some (by kernel_rfl))
  f205 := Tryz.func263.trans (congrArg some (by kernel_rfl))
  f243 := Tryz.func225.trans (congrArg some (by kernel_rfl))
  f244 := Tryz.func223.trans (congrArg some (by kernel_rfl))
  f245 := Tryz.func224.trans (congrArg some (by kernel_rfl))
  f246 := Tryz.func251.trans (congrArg some (by kernel_rfl))
  f247 := Tryz.func246.trans (congrArg some (by kernel_rfl))
  f279 := Tryz.func247.trans (congrArg some (by kernel_rfl))
  f280 := Tryz.func248.trans (congrArg some (by kernel_rfl))
  f281 := Tryz.func249.trans (congrArg some (by kernel_rfl))
  f282 := Tryz.func250.trans (congrArg some (by kernel_rfl))
  f283 := Tryz.func264.trans (congrArg some (by kernel_rfl))
  f284 := Tryz.func265.trans (congrArg some (by kernel_rfl))
  f285 := Tryz.func266.trans (congrArg some (by kernel_rfl))
  f286 := Tryz.func267.trans (congrArg some (by kernel_rfl))
  f287 := Tryz.func261.trans (congrArg some (by kernel_rfl))
  f316 := Tryz.func262.trans (congrArg some (by kernel_rfl))
  f317 := Tryz.func270.trans (congrArg some (by kernel_rfl))
  f318 := Tryz.func272.trans (congrArg some (by kernel_rfl))
  f319 := Tryz.func273.trans (congrArg some (by kernel_rfl))
  f320 := Tryz.func274.trans (congrArg some (by kernel_rfl))
  f321 := Tryz.func268.trans (congrArg some (by kernel_rfl))
  f322 := Tryz.func269.trans (congrArg some (by kernel_rfl))
  f337 := Tryz.func275.trans (congrArg some (by kernel_rfl))
  f338 := Tryz.func276.trans (congrArg some (by kernel_rfl))
  t0 := Tryz.underlying0
  a0 := Tryz.isAgg0
  z0 := Tryz.sizeOf0
  v0 := Tryz.zeroValue0
  t2 := Tryz.underlying2
  a2 := Tryz.isAgg2
  z2 := Tryz.sizeOf2
  v2 := Tryz.zeroValue2
  t3 := Tryz.underlying3
  a3 := Tryz.isAgg3
  z3 := Tryz.sizeOf3
  v3 := Tryz.zeroValue3
  t4 := Tryz.underlying4
  a4 := Tryz.isAgg4
  z4 := Tryz.sizeOf4
  v4 := Tryz.zeroValue4
  t5 := Tryz.underlying5
  a5 := Tryz.isAgg5
  z5 := Tryz.sizeOf5
  v5 := Tryz.zeroValue5
  t9 := Tryz.underlying9
  a9 := Tryz.isAgg9
  z9 := Tryz.sizeOf9
  v9 := Tryz.zeroValue9
  t20 := Tryz.underlying20
  a20 := Tryz.isAgg20
  z20 := Tryz.sizeOf20
  v20 := Tryz.zeroValue20
  t21 := Tryz.underlying21
  a21 := Tryz.isAgg21
  z21 := Tryz.sizeOf21
  v21 := Tryz.zeroValue21
  t37 := Tryz.underlying301
  a37 := Tryz.isAgg301
  z37 := Tryz.sizeOf301
  v37 := Tryz.zeroValue301
  t46 := Tryz.underlying316
  a46 := Tryz.isAgg316
  z46 := Tryz.sizeOf316
  v46 := Tryz.zeroValue316
  t51 := Tryz.underlying337
  a51 := Tryz.isAgg337
  z51 := Tryz.sizeOf337
  v51 := Tryz.zeroValue337
  t53 := Tryz.underlying340
  a53 := Tryz.isAgg340
  z53 := Tryz.sizeOf340
  v53 := Tryz.zeroValue340
  t75 := Tryz.underlying292
  a75 := Tryz.isAgg292
  z75 := Tryz.sizeOf292
  v75 := Tryz.zeroValue292
  t76 := Tryz.underlying293
  a76 := Tryz.isAgg293
  z76 := Tryz.sizeOf293
  v76 := Tryz.zeroValue293
  t85 := Tryz.underlying348
  a85 := Tryz.isAgg348
  z85 := Tryz.sizeOf348
  v85 := Tryz.zeroValue348
  t127 := Tryz.underlying334
  a127 := Tryz.isAgg334
  z127 := Tryz.sizeOf334
  v127 := Tryz.zeroValue334
  t143 := Tryz.underlying378
  a143 := Tryz.isAgg378
  z143 := Tryz.sizeOf378
  v143 := Tryz.zeroValue378
  t145 := Tryz.underlying380
  a145 := Tryz.isAgg380
  z145 := Tryz.sizeOf380
  v145 := Tryz.zeroValue380
  t167 := Tryz.underlying347
  a167 := Tryz.isAgg347
  z167 := Tryz.sizeOf347
  v167 := Tryz.zeroValue347
  t168 := Tryz.underlying350
  a168 := Tryz.isAgg350
  z168 := Tryz.sizeOf350
  v168 := Tryz.zeroValue350
  t171 := Tryz.underlying371
  a171 := Tryz.isAgg371
  z171 := Tryz.sizeOf371
  v171 := Tryz.zeroValue371
  t173 := Tryz.underlying374
  a173 := Tryz.isAgg374
  z173 := Tryz.sizeOf374
  v173 := Tryz.zeroValue374
  t175 := Tryz.underlying365
  a175 := Tryz.isAgg365
  z175 := Tryz.sizeOf365
  v175 := Tryz.zeroValue365
  t210 := Tryz.underlying369
  a210 := Tryz.isAgg369
  z210 := Tryz.sizeOf369
  v210 := Tryz.zeroValue369
  t212 := Tryz.underlying382
  a212 := Tryz.isAgg382
  z212 := Tryz.sizeOf382
  v212 := Tryz.zeroValue382
  t213 := Tryz.underlying383
  a213 := Tryz.isAgg383
  z213 := Tryz.sizeOf383
  t232 := Tryz.underlying386
  a232 := Tryz.isAgg386
  z232 := Tryz.sizeOf386
  v232 := Tryz.zeroValue386
  t233 := Tryz.underlying387
  a233 := Tryz.isAgg387
  z233 := Tryz.sizeOf387
  v233 := Tryz.zeroValue387
  g15 := by kernel_rfl
  g16 := by kernel_rfl
  g17 := by kernel_rfl
  g18 := by kernel_rfl
  g19 := by kernel_rfl
  t80 := Tryz.underlying305
  a80 := Tryz.isAgg305
  z80 := Tryz.sizeOf305
  v80 := Tryz.zeroValue305
  i0 := by kernel_rfl
  i2 := by kernel_rfl
  i3 := by kernel_rfl
  i4 := by kernel_rfl
  i5 := by kernel_rfl
  i9 := by kernel_rfl
  i20 := by kernel_rfl
  i21 := by kernel_rfl
  i37 := by kernel_rfl
  i46 := by kernel_rfl
  i51 := by kernel_rfl
  i53 := by kernel_rfl
  i75 := by kernel_rfl
  i76 := by kernel_rfl
  i80 := by kernel_rfl
  i85 := by kernel_rfl
  i127 := by kernel_rfl
  i143 := by kernel_rfl
  i145 := by kernel_rfl
  i167 := by kernel_rfl
  i168 := by kernel_rfl
  i171 := by kernel_rfl
  i173 := by kernel_rfl
  i175 := by kernel_rfl
  i210 := by kernel_rfl
  i212 := by kernel_rfl
  i232 := by kernel_rfl
  i233 := by kernel_rfl
  m15 := by kernel_rfl
  m16 := by kernel_rfl
  m17 := by kernel_rfl
  m18 := by kernel_rfl
  m19 := by kernel_rfl
  c0 := by kernel_rfl
  c2 := by kernel_rfl
  c3 := by kernel_rfl
  c4 := by kernel_rfl
  c5 := by kernel_rfl
  c9 := by kernel_rfl
  c20 := by kernel_rfl
  c21 := by kernel_rfl
  c37 := by kernel_rfl
  c46 := by kernel_rfl
  c51 := by kernel_rfl
  c53 := by kernel_rfl
  c75 := by kernel_rfl
  c76 := by kernel_rfl
  c80 := by kernel_rfl
  c85 := by kernel_rfl
  c127 := by kernel_rfl
  c143 := by kernel_rfl
  c145 := by kernel_rfl
  c167 := by kernel_rfl
  c168 := by kernel_rfl
  c171 := by kernel_rfl
  c173 := by kernel_rfl
  c175 := by kernel_rfl
  c210 := by kernel_rfl
  c212 := by kernel_rfl
  c213 := by kernel_rfl
  c232 := by kernel_rfl
  c233 := by kernel_rfl }
open Go.RowKit in
theorem Tryz.strconv_Atoi_ok (s : ByteArray) (hmax : s.size ≤ 9223372036854775806) (v : Int) (h : Lib.atoiAll s.data.toList = .ok v) (w : World) :
    Calls Tryz.prog 184 #[.string s] w fun e w' => e = .returned (.tuple #[.int .i64 v, .nilIface]) ∧ (w' = w ∨ ∃ t, w' = Lib.bytesWorld w 5 t) := Any.strconv_Atoi_ok Tryz.laysC172 s hmax v h w
def Tryz.lays145_ren : Go.Shelf.Ren := ⟨fun | 145 => 135 | 220 => 174 | 219 => 216 | 217 => 238 | 225 => 239 | 224 => 240 | 267 => 241 | 266 => 257 | 314 => 258 | n => n, fun | 9 => 9 | 4 => 4 | 59 => 238 | 3 => 3 | 5 => 5 | 46 => 316 | 146 => 338 | 51 => 337 | n => n, fun | 1 => 1 | n => n⟩
theorem Tryz.lays145 : Go.Proofs.Lays.n145 Tryz.prog Tryz.lays145_ren := {
  mixed := by kernel_rfl
  f145 := Tryz.func135.trans (congrArg some (by kernel_rfl))
  f217 := Tryz.func238.trans (congrArg some (by kernel_rfl))
  f219 := Tryz.func216.trans (congrArg some (by kernel_rfl))
  f220 := Tryz.func174.trans (congrArg some (by kernel_rfl))
  f224 := Tryz.func240.trans (congrArg some (by kernel_rfl))
  f225 := Tryz.func239.trans (congrArg some (by kernel_rfl))
  f266 := Tryz.func257.trans (congrArg some (by kernel_rfl))
  f267 := Tryz.func241.trans (congrArg some (by kernel_rfl))
  f314 := Tryz.func258.trans (congrArg some (by kernel_rfl))
  t3 := Tryz.underlying3
  a3 := Tryz.isAgg3
  z3 := Tryz.sizeOf3
  v3 := Tryz.zeroValue3
  t4 := Tryz.underlying4
  a4 := Tryz.isAgg4
  z4 := Tryz.sizeOf4
  v4 := Tryz.zeroValue4
  t5 := Tryz.underlying5
  a5 := Tryz.isAgg5
  z5 := Tryz.sizeOf5
  v5 := Tryz.zeroValue5
  t9 := Tryz.underlying9
  a9 := Tryz.isAgg9
  z9 := Tryz.sizeOf9
  v9 := Tryz.zeroValue9
  t46 := Tryz.underlying316
  a46 := Tryz.isAgg316
  z46 := Tryz.sizeOf316
  v46 := Tryz.zeroValue316
  t51 := Tryz.underlying337
  a51 := Tryz.isAgg337
  z51 := Tryz.sizeOf337
  v51 := Tryz.zeroValue337
  t59 := Tryz.underlying238
  a59 := Tryz.isAgg238
  z59 := Tryz.sizeOf238
  v59 := Tryz.zeroValue238
  t146 := Tryz.underlying338
  a146 := Tryz.isAgg338
  z146 := Tryz.sizeOf338
  v146 := Tryz.zeroValue338
  g1 := by kernel_rfl }
open Go.RowKit Go.Lib in
theorem Tryz.strings_Cut (s sep : ByteArray) (m : Int) (w : World) (hs : s.size < 4294967281) (hm : w.cell? ⟨1, 0, none⟩ = some (.int .i64 m)) :
    Calls Tryz.prog 135 #[.string s, .string sep] w fun e w' => e = .returned (.tuple #[.string ⟨(Lib.cut s.data.toList sep.data.toList).1.toArray⟩, .string ⟨(Lib.cut s.data.toList sep.data.toList).2.1.toArray⟩, .bool (Lib.cut s.data.toList sep.data.toList).2.2]) ∧ ∃ n, w' = w.drewN n := Any.strings_Cut Tryz.lays145 s sep m w hs hm
def Tryz.lays99_ren : Go.Shelf.Ren := ⟨fun | 99 => 235 | 206 => 217 | n => n, fun | 9 => 9 | 4 => 4 | 3 => 3 | n => n, fun | n => n⟩
theorem Tryz.lays99 : Go.Proofs.Lays.n99 Tryz.prog Tryz.lays99_ren := {
  mixed := by kernel_rfl
  f99 := Tryz.func235.trans (congrArg some (by kernel_rfl))
  f206 := Tryz.func217.trans (congrArg some (by kernel_rfl))
  t3 := Tryz.underlying3
  a3 := Tryz.isAgg3
  z3 := Tryz.sizeOf3
  v3 := Tryz.zeroValue3
  t4 := Tryz.underlying4
  a4 := Tryz.isAgg4
  z4 := Tryz.sizeOf4
  v4 := Tryz.zeroValue4
  t9 := Tryz.underlying9
  a9 := Tryz.isAgg9
  z9 := Tryz.sizeOf9
  v9 := Tryz.zeroValue9 }
open Go.RowKit Go.Lib in
theorem Tryz.strings_HasPrefix (s p : ByteArray) (w : World) :
    Calls Tryz.prog 235 #[.string s, .string p] w fun e w' => e = .returned (.bool (Lib.hasPrefix s.data.toList p.data.toList)) ∧ w' = w := Any.strings_HasPrefix Tryz.lays99 s p w
def Tryz.lays101_ren : Go.Shelf.Ren := ⟨fun | 101 => 136 | 208 => 175 | 206 => 217 | n => n, fun | 9 => 9 | 4 => 4 | 3 => 3 | n => n, fun | n => n⟩
theorem Tryz.lays101 : Go.Proofs.Lays.n101 Tryz.prog Tryz.lays101_ren := {
  mixed := by kernel_rfl
  f101 := Tryz.func136.trans (congrArg some (by kernel_rfl))
  f206 := Tryz.func217.trans (congrArg some (by kernel_rfl))
  f208 := Tryz.func175.trans (congrArg some (by kernel_rfl))
  t3 := Tryz.underlying3
  a3 := Tryz.isAgg3
  z3 := Tryz.sizeOf3
  v3 := Tryz.zeroValue3
  t4 := Tryz.underlying4
  a4 := Tryz.isAgg4
  z4 := Tryz.sizeOf4
  v4 := Tryz.zeroValue4
  t9 := Tryz.underlying9
  a9 := Tryz.isAgg9
  z9 := Tryz.sizeOf9
  v9 := Tryz.zeroValue9 }
open Go.RowKit Go.Lib in
theorem Tryz.strings_TrimPrefix (s p : ByteArray) (w : World) :
    Calls Tryz.prog 136 #[.string s, .string p] w fun e w' => e = .returned (.string ⟨(Lib.trimPrefix s.data.toList p.data.toList).toArray⟩) ∧ w' = w := Any.strings_TrimPrefix Tryz.lays101 s p w
end Go.Proofs

