/-
  DERIVED: THE SHELF's CONTRACTS AT THIS DUMP, IN PLAIN WORDS (tools/lay-plain.mjs out of 'TryzShelf.lean', which tools/lay-shelf.mjs wrote): THE SAME DECLARATIONS UNDER THE SAME NAMES: 'import', 'namespace', 'open', 'def', 'theorem' AND NOTHING ELSE: no command of the shelf's: FOR A HAND-IN. Each laying: the table of numbers ('.._ren') and one theorem, a field a fact of the dump's own or the kernel's comparison; each contract: ONE APPLICATION.
-/
import Derived.Shelf.Strings.Builder1
import Derived.Shelf.Strings.Trim
import Derived.Shelf.Strings.SlTrimAscii
import Derived.Shelf.Small.Utf8
import Derived.Shelf.Small.Bits
import Derived.Shelf.Small.Strs
import Derived.Shelf.Strings.BuilderF
import Derived.Shelf.Strings.BuilderK
import Derived.Shelf.Strconv.Atoi
import Derived.Shelf.Strconv.Itoa0
import Derived.Shelf.Strconv.Itoa1
import Derived.Shelf.LaysM
import Derived.Shelf.Strconv.Itoa2
import Derived.Shelf.Strconv.Itoa3
import Derived.Shelf.Strconv.AtoiErrFast
import Derived.Shelf.Strconv.ParseIntEmpty
import Derived.Shelf.Strconv.AtoiFail
import Derived.Shelf.Strconv.Clone
import Derived.Shelf.Strconv.SyntaxError
import Derived.Shelf.LaysC
import Derived.Shelf.Strconv.ToError
import Derived.Shelf.Strconv.Lower
import Derived.Shelf.Strconv.ParseUint10
import Derived.Shelf.Strconv.ParseUint10Empty
import Derived.Shelf.Strconv.ParseUint10Any
import Derived.Shelf.Strconv.ParseInt10
import Derived.Shelf.Strconv.AtoiLong
import Derived.Shelf.Strconv.AtoiInnerAll
import Derived.Shelf.Strconv.RangeError
import Derived.Shelf.Strconv.ToErrorRange
import Derived.Shelf.Strconv.AtoiAll
import Derived.Shelf.Strconv.ErrVarAll
import Derived.Shelf.Strings.Search1
import Derived.Shelf.Strings.Search2
import Derived.Shelf.Strings.Cut
import Derived.Shelf.Strings.Shaped
import Derived.Shelf.Strings.Prefix
import Derived.Shelf.Unicode.Decode
import Derived.Shelf.Strings.Runes
import Derived.Shelf.Strings.AsciiSet
import Derived.Shelf.Unicode.DecodeSlow
import Derived.Shelf.Unicode.DecodeAny
import Derived.Shelf.Unicode.DecodeLast
import Derived.Test.YtnnhmnaobdnfnaaGreatDoorProg
namespace Go.Proofs
open Go.Shelf
def Tryz.lays169_ren : Go.Shelf.Ren := ⟨fun | 169 => 255 | n => n, fun | 70 => 269 | 9 => 9 | 0 => 0 | 72 => 271 | 37 => 178 | 127 => 287 | 3 => 3 | 5 => 5 | n => n, fun | n => n⟩
theorem Tryz.lays169 : Go.Proofs.Lays.n169 Tryz.prog Tryz.lays169_ren := {
  mixed := by kernel_rfl
  f169 := Tryz.func255.trans (congrArg some (by kernel_rfl))
  t0 := Tryz.underlying0
  a0 := Tryz.isAgg0
  z0 := Tryz.sizeOf0
  v0 := Tryz.zeroValue0
  t3 := Tryz.underlying3
  a3 := Tryz.isAgg3
  z3 := Tryz.sizeOf3
  v3 := Tryz.zeroValue3
  t9 := Tryz.underlying9
  a9 := Tryz.isAgg9
  z9 := Tryz.sizeOf9
  v9 := Tryz.zeroValue9
  t37 := Tryz.underlying178
  a37 := Tryz.isAgg178
  z37 := Tryz.sizeOf178
  v37 := Tryz.zeroValue178
  t70 := Tryz.underlying269
  a70 := Tryz.isAgg269
  z70 := Tryz.sizeOf269
  v70 := Tryz.zeroValue269
  t72 := Tryz.underlying271
  a72 := Tryz.isAgg271
  z72 := Tryz.sizeOf271
  v72 := Tryz.zeroValue271
  t127 := Tryz.underlying287
  a127 := Tryz.isAgg287
  z127 := Tryz.sizeOf287
  v127 := Tryz.zeroValue287 }
theorem Tryz.Builder_Extra_169 : Builder.Extra Tryz.prog Tryz.lays169_ren := {
  sizeBuilder := by kernel_rfl
  liesBuilder := by kernel_rfl
  t5 := Tryz.underlying5
  a5 := Tryz.isAgg5
  z5 := Tryz.sizeOf5
  v5 := Tryz.zeroValue5
  infoByte := by kernel_rfl
  cellsByte := by kernel_rfl
  sizeByte := by kernel_rfl
  neB5 := by decide }
open Go.RowKit in
theorem Tryz.Builder_String_any (B b : Nat) (l : List UInt8) (w : World) (h : Lib.IsBuilder 271 5 B b (Lib.byteCells l) w) (hBw : B ≤ w.heap.size) :
    Calls Tryz.prog 255 #[.pointer (some ⟨b, 0, none⟩)] w fun e w' => e = .returned (.string ⟨l.toArray⟩) ∧ Below B w w' := Any.Builder_String_any Tryz.lays169 Tryz.Builder_Extra_169 B b l w h hBw
def Tryz.lays160_ren : Go.Shelf.Ren := ⟨fun | 160 => 226 | 232 => 245 | 231 => 244 | 227 => 246 | 234 => 248 | 233 => 247 | 236 => 250 | 235 => 249 | 228 => 269 | 271 => 272 | 151 => 271 | 197 => 270 | 120 => 288 | 152 => 287 | 260 => 286 | 137 => 295 | 119 => 296 | 224 => 262 | 225 => 261 | 217 => 260 | 266 => 280 | n => n, fun | 9 => 9 | 4 => 4 | 3 => 3 | 5 => 5 | 117 => 263 | 116 => 262 | 0 => 0 | 124 => 266 | 21 => 21 | 105 => 283 | 46 => 113 | 119 => 306 | 139 => 309 | 138 => 308 | n => n, fun | 3 => 4 | 4 => 5 | n => n⟩
theorem Tryz.lays160 : Go.Proofs.Lays.n160 Tryz.prog Tryz.lays160_ren := {
  mixed := by kernel_rfl
  f119 := Tryz.func296.trans (congrArg some (by kernel_rfl))
  f120 := Tryz.func288.trans (congrArg some (by kernel_rfl))
  f137 := Tryz.func295.trans (congrArg some (by kernel_rfl))
  f151 := Tryz.func271.trans (congrArg some (by kernel_rfl))
  f152 := Tryz.func287.trans (congrArg some (by kernel_rfl))
  f160 := Tryz.func226.trans (congrArg some (by kernel_rfl))
  f197 := Tryz.func270.trans (congrArg some (by kernel_rfl))
  f217 := Tryz.func260.trans (congrArg some (by kernel_rfl))
  f224 := Tryz.func262.trans (congrArg some (by kernel_rfl))
  f225 := Tryz.func261.trans (congrArg some (by kernel_rfl))
  f227 := Tryz.func246.trans (congrArg some (by kernel_rfl))
  f228 := Tryz.func269.trans (congrArg some (by kernel_rfl))
  f231 := Tryz.func244.trans (congrArg some (by kernel_rfl))
  f232 := Tryz.func245.trans (congrArg some (by kernel_rfl))
  f233 := Tryz.func247.trans (congrArg some (by kernel_rfl))
  f234 := Tryz.func248.trans (congrArg some (by kernel_rfl))
  f235 := Tryz.func249.trans (congrArg some (by kernel_rfl))
  f236 := Tryz.func250.trans (congrArg some (by kernel_rfl))
  f260 := Tryz.func286.trans (congrArg some (by kernel_rfl))
  f266 := Tryz.func280.trans (congrArg some (by kernel_rfl))
  f271 := Tryz.func272.trans (congrArg some (by kernel_rfl))
  t0 := Tryz.underlying0
  a0 := Tryz.isAgg0
  z0 := Tryz.sizeOf0
  v0 := Tryz.zeroValue0
  t3 := Tryz.underlying3
  a3 := Tryz.isAgg3
  z3 := Tryz.sizeOf3
  v3 := Tryz.zeroValue3
  t4 := Tryz.underlying4
  a4 := Tryz.isAgg4
  z4 := Tryz.sizeOf4
  v4 := Tryz.zeroValue4
  t5 := Tryz.underlying5
  a5 := Tryz.isAgg5
  z5 := Tryz.sizeOf5
  v5 := Tryz.zeroValue5
  t9 := Tryz.underlying9
  a9 := Tryz.isAgg9
  z9 := Tryz.sizeOf9
  v9 := Tryz.zeroValue9
  t21 := Tryz.underlying21
  a21 := Tryz.isAgg21
  z21 := Tryz.sizeOf21
  v21 := Tryz.zeroValue21
  t46 := Tryz.underlying113
  a46 := Tryz.isAgg113
  z46 := Tryz.sizeOf113
  v46 := Tryz.zeroValue113
  t105 := Tryz.underlying283
  a105 := Tryz.isAgg283
  z105 := Tryz.sizeOf283
  v105 := Tryz.zeroValue283
  t116 := Tryz.underlying262
  a116 := Tryz.isAgg262
  z116 := Tryz.sizeOf262
  t117 := Tryz.underlying263
  a117 := Tryz.isAgg263
  z117 := Tryz.sizeOf263
  v117 := Tryz.zeroValue263
  t119 := Tryz.underlying306
  a119 := Tryz.isAgg306
  z119 := Tryz.sizeOf306
  t124 := Tryz.underlying266
  a124 := Tryz.isAgg266
  z124 := Tryz.sizeOf266
  v124 := Tryz.zeroValue266
  t138 := Tryz.underlying308
  a138 := Tryz.isAgg308
  z138 := Tryz.sizeOf308
  v138 := Tryz.zeroValue308
  t139 := Tryz.underlying309
  a139 := Tryz.isAgg309
  z139 := Tryz.sizeOf309
  v139 := Tryz.zeroValue309
  g3 := by kernel_rfl
  g4 := by kernel_rfl }
def Tryz.lays106_ren : Go.Shelf.Ren := ⟨fun | 106 => 218 | 213 => 241 | 265 => 264 | n => n, fun | 9 => 9 | 3 => 3 | n => n, fun | n => n⟩
theorem Tryz.lays106 : Go.Proofs.Lays.n106 Tryz.prog Tryz.lays106_ren := {
  mixed := by kernel_rfl
  f106 := Tryz.func218.trans (congrArg some (by kernel_rfl))
  f213 := Tryz.func241.trans (congrArg some (by kernel_rfl))
  f265 := Tryz.func264.trans (congrArg some (by kernel_rfl))
  t3 := Tryz.underlying3
  a3 := Tryz.isAgg3
  z3 := Tryz.sizeOf3
  v3 := Tryz.zeroValue3
  t9 := Tryz.underlying9
  a9 := Tryz.isAgg9
  z9 := Tryz.sizeOf9
  v9 := Tryz.zeroValue9 }
open Go.RowKit in
theorem Tryz.strings_Compare (a b : ByteArray) (w : World) :
    Calls Tryz.prog 218 #[.string a, .string b] w fun e w' => e = .returned (.int .i64 (Lib.compareBytes a.data.toList b.data.toList)) ∧ w' = w := Any.strings_Compare Tryz.lays106 a b w
def Tryz.laysM171_ren : Go.Shelf.Ren := ⟨fun | 171 => 186 | 243 => 225 | 246 => 243 | 283 => 265 | 284 => 266 | 285 => 267 | 286 => 268 | 129 => 185 | 317 => 282 | 318 => 283 | 319 => 284 | 320 => 285 | 337 => 293 | 338 => 294 | n => n, fun | 3 => 3 | 9 => 9 | 2 => 2 | 4 => 4 | 171 => 278 | 0 => 0 | 53 => 174 | 37 => 178 | 5 => 5 | 173 => 280 | 212 => 296 | 51 => 171 | 20 => 20 | 213 => 297 | 46 => 113 | 232 => 316 | 233 => 317 | n => n, fun | 17 => 1 | 18 => 6 | 19 => 7 | n => n⟩
theorem Tryz.laysM171 : Go.Proofs.LaysM.n171 Tryz.prog Tryz.laysM171_ren := {
  mixed := by kernel_rfl
  f129 := Tryz.func185.trans (congrArg some (by kernel_rfl))
  f171 := Tryz.func186.trans (congrArg some (by kernel_rfl))
  f243 := Tryz.func225.trans (congrArg some (by kernel_rfl))
  f246 := Tryz.func243.trans (congrArg some (by kernel_rfl))
  f283 := Tryz.func265.trans (congrArg some (by kernel_rfl))
  f284 := Tryz.func266.trans (congrArg some (by kernel_rfl))
  f285 := Tryz.func267.trans (congrArg some (by kernel_rfl))
  f286 := Tryz.func268.trans (congrArg some (by kernel_rfl))
  f317 := Tryz.func282.trans (congrArg some (by kernel_rfl))
  f318 := Tryz.func283.trans (congrArg some (by kernel_rfl))
  f319 := Tryz.func284.trans (congrArg some (by kernel_rfl))
  f320 := Tryz.func285.trans (congrArg some (by kernel_rfl))
  f337 := Tryz.func293.trans (congrArg some (by kernel_rfl))
  f338 := Tryz.func294.trans (congrArg some (by kernel_rfl))
  t0 := Tryz.underlying0
  a0 := Tryz.isAgg0
  z0 := Tryz.sizeOf0
  v0 := Tryz.zeroValue0
  t2 := Tryz.underlying2
  a2 := Tryz.isAgg2
  z2 := Tryz.sizeOf2
  v2 := Tryz.zeroValue2
  t3 := Tryz.underlying3
  a3 := Tryz.isAgg3
  z3 := Tryz.sizeOf3
  v3 := Tryz.zeroValue3
  t4 := Tryz.underlying4
  a4 := Tryz.isAgg4
  z4 := Tryz.sizeOf4
  v4 := Tryz.zeroValue4
  t5 := Tryz.underlying5
  a5 := Tryz.isAgg5
  z5 := Tryz.sizeOf5
  v5 := Tryz.zeroValue5
  t9 := Tryz.underlying9
  a9 := Tryz.isAgg9
  z9 := Tryz.sizeOf9
  v9 := Tryz.zeroValue9
  t20 := Tryz.underlying20
  a20 := Tryz.isAgg20
  z20 := Tryz.sizeOf20
  v20 := Tryz.zeroValue20
  t37 := Tryz.underlying178
  a37 := Tryz.isAgg178
  z37 := Tryz.sizeOf178
  v37 := Tryz.zeroValue178
  t46 := Tryz.underlying113
  a46 := Tryz.isAgg113
  z46 := Tryz.sizeOf113
  v46 := Tryz.zeroValue113
  t51 := Tryz.underlying171
  a51 := Tryz.isAgg171
  z51 := Tryz.sizeOf171
  v51 := Tryz.zeroValue171
  t53 := Tryz.underlying174
  a53 := Tryz.isAgg174
  z53 := Tryz.sizeOf174
  v53 := Tryz.zeroValue174
  t171 := Tryz.underlying278
  a171 := Tryz.isAgg278
  z171 := Tryz.sizeOf278
  v171 := Tryz.zeroValue278
  t173 := Tryz.underlying280
  a173 := Tryz.isAgg280
  z173 := Tryz.sizeOf280
  v173 := Tryz.zeroValue280
  t212 := Tryz.underlying296
  a212 := Tryz.isAgg296
  z212 := Tryz.sizeOf296
  v212 := Tryz.zeroValue296
  t213 := Tryz.underlying297
  a213 := Tryz.isAgg297
  z213 := Tryz.sizeOf297
  t232 := Tryz.underlying316
  a232 := Tryz.isAgg316
  z232 := Tryz.sizeOf316
  v232 := Tryz.zeroValue316
  t233 := Tryz.underlying317
  a233 := Tryz.isAgg317
  z233 := Tryz.sizeOf317
  v233 := Tryz.zeroValue317
  g17 := by kernel_rfl
  g18 := by kernel_rfl
  g19 := by kernel_rfl
  i0 := by kernel_rfl
  i2 := by kernel_rfl
  i3 := by kernel_rfl
  i4 := by kernel_rfl
  i5 := by kernel_rfl
  i9 := by kernel_rfl
  i20 := by kernel_rfl
  i37 := by kernel_rfl
  i46 := by kernel_rfl
  i51 := by kernel_rfl
  i53 := by kernel_rfl
  i171 := by kernel_rfl
  i173 := by kernel_rfl
  i212 := by kernel_rfl
  i232 := by kernel_rfl
  i233 := by kernel_rfl
  m17 := by kernel_rfl
  m18 := by kernel_rfl
  m19 := by kernel_rfl }
open Go.RowKit Go.Sort Go.Lib in
theorem Tryz.strconv_Itoa (n : Int) (h0 : -9223372036854775808 ≤ n) (h1 : n ≤ 9223372036854775807) (w : World) (htab : Lib.TabIs Tryz.prog w "internal/strconv.uint64pow10" .u64 Lib.pow10Tab) :
    Calls Tryz.prog 186 #[.int .i64 n] w fun e w' => e = .returned (.string ⟨(Lib.itoa n).toArray⟩) ∧ ∃ k os, w' = grow (w.drewN k) os := Any.strconv_Itoa Tryz.laysM171 n h0 h1 w htab
def Tryz.laysC172_ren : Go.Shelf.Ren := ⟨fun | 172 => 237 | 244 => 258 | 245 => 259 | 247 => 275 | 279 => 276 | 280 => 277 | 281 => 278 | 282 => 279 | 287 => 290 | 316 => 291 | 171 => 186 | 205 => 292 | 321 => 297 | 322 => 298 | 243 => 225 | 246 => 243 | 283 => 265 | 284 => 266 | 285 => 267 | 286 => 268 | 129 => 185 | 317 => 282 | 318 => 283 | 319 => 284 | 320 => 285 | 337 => 293 | 338 => 294 | n => n, fun | 9 => 9 | 3 => 3 | 75 => 251 | 76 => 252 | 4 => 4 | 5 => 5 | 167 => 288 | 37 => 178 | 0 => 0 | 85 => 289 | 2 => 2 | 168 => 291 | 53 => 174 | 175 => 301 | 46 => 113 | 210 => 304 | 127 => 287 | 145 => 315 | 143 => 313 | 21 => 21 | 171 => 278 | 173 => 280 | 212 => 296 | 51 => 171 | 20 => 20 | 213 => 297 | 232 => 316 | 233 => 317 | 80 => 273 | n => n, fun | 15 => 2 | 16 => 3 | 17 => 1 | 18 => 6 | 19 => 7 | n => n⟩
theorem Tryz.laysC172 : Go.Proofs.LaysC.n172 Tryz.prog Tryz.laysC172_ren := {
  mixed := by kernel_rfl
  f129 := Tryz.func185.trans (congrArg some (by kernel_rfl))
  f171 := Tryz.func186.trans (congrArg some (by kernel_rfl))
  f172 := Tryz.func237.trans (congrArg some (by kernel_rfl))
  f205 := Tryz.func292.trans (congrArg some (by kernel_rfl))
  f243 := Tryz.func225.trans (congrArg some (by kernel_rfl))
  f244 := Tryz.func258.trans (congrArg some (by kernel_rfl))
  f245 := Tryz.func259.trans (congrArg some (by kernel_rfl))
  f246 := Tryz.func243.trans (congrArg some (by kernel_rfl))
  f247 := Tryz.func275.trans (congrArg some (by kernel_rfl))
  f279 := Tryz.func276.trans (congrArg some (by kernel_rfl))
  f280 := Tryz.func277.trans (congrArg some (by kernel_rfl))
  f281 := Tryz.func278.trans (congrArg some (by kernel_rfl))
  f282 := Tryz.func279.trans (congrArg some (by kernel_rfl))
  f283 := Tryz.func265.trans (congrArg some (by kernel_rfl))
  f284 := Tryz.func266.trans (congrArg some (by kernel_rfl))
  f285 := Tryz.func267.trans (congrArg some (by kernel_rfl))
  f286 := Tryz.func268.trans (congrArg some (by kernel_rfl))
  f287 := Tryz.func290.trans (congrArg some (by kernel_rfl))
  f316 := Tryz.func291.trans (congrArg some (by kernel_rfl))
  f317 := Tryz.func282.trans (congrArg some (by kernel_rfl))
  f318 := Tryz.func283.trans (congrArg some (by kernel_rfl))
  f319 := Tryz.func284.trans (congrArg some (by kernel_rfl))
  f320 := Tryz.func285.trans (congrArg some (by kernel_rfl))
  f321 := Tryz.func297.trans (congrArg some (by kernel_rfl))
  f322 := Tryz.func298.trans (congrArg some (by kernel_rfl))
  f337 := Tryz.func293.trans (congrArg some (by kernel_rfl))
  f338 := Tryz.func294.trans (congrArg some (by kernel_rfl))
  t0 := Tryz.underlying0
  a0 := Tryz.isAgg0
  z0 := Tryz.sizeOf0
  v0 := Tryz.zeroValue0
  t2 := Tryz.underlying2
  a2 := Tryz.isAgg2
  z2 := Tryz.sizeOf2
  v2 := Tryz.zeroValue2
  t3 := Tryz.underlying3
  a3 := Tryz.isAgg3
  z3 := Tryz.sizeOf3
  v3 := Tryz.zeroValue3
  t4 := Tryz.underlying4
  a4 := Tryz.isAgg4
  z4 := Tryz.sizeOf4
  v4 := Tryz.zeroValue4
  t5 := Tryz.underlying5
  a5 := Tryz.isAgg5
  z5 := Tryz.sizeOf5
  v5 := Tryz.zeroValue5
  t9 := Tryz.underlying9
  a9 := Tryz.isAgg9
  z9 := Tryz.sizeOf9
  v9 := Tryz.zeroValue9
  t20 := Tryz.underlying20
  a20 := Tryz.isAgg20
  z20 := Tryz.sizeOf20
  v20 := Tryz.zeroValue20
  t21 := Tryz.underlying21
  a21 := Tryz.isAgg21
  z21 := Tryz.sizeOf21
  v21 := Tryz.zeroValue21
  t37 := Tryz.underlying178
  a37 := Tryz.isAgg178
  z37 := Tryz.sizeOf178
  v37 := Tryz.zeroValue178
  t46 := Tryz.underlying113
  a46 := Tryz.isAgg113
  z46 := Tryz.sizeOf113
  v46 := Tryz.zeroValue113
  t51 := Tryz.underlying171
  a51 := Tryz.isAgg171
  z51 := Tryz.sizeOf171
  v51 := Tryz.zeroValue171
  t53 := Tryz.underlying174
  a53 := Tryz.isAgg174
  z53 := Tryz.sizeOf174
  v53 := Tryz.zeroValue174
  t75 := Tryz.underlying251
  a75 := Tryz.isAgg251
  z75 := Tryz.sizeOf251
  v75 := Tryz.zeroValue251
  t76 := Tryz.underlying252
  a76 := Tryz.isAgg252
  z76 := Tryz.sizeOf252
  v76 := Tryz.zeroValue252
  t85 := Tryz.underlying289
  a85 := Tryz.isAgg289
  z85 := Tryz.sizeOf289
  v85 := Tryz.zeroValue289
  t127 := Tryz.underlying287
  a127 := Tryz.isAgg287
  z127 := Tryz.sizeOf287
  v127 := Tryz.zeroValue287
  t143 := Tryz.underlying313
  a143 := Tryz.isAgg313
  z143 := Tryz.sizeOf313
  v143 := Tryz.zeroValue313
  t145 := Tryz.underlying315
  a145 := Tryz.isAgg315
  z145 := Tryz.sizeOf315
  v145 := Tryz.zeroValue315
  t167 := Tryz.underlying288
  a167 := Tryz.isAgg288
  z167 := Tryz.sizeOf288
  v167 := Tryz.zeroValue288
  t168 := Tryz.underlying291
  a168 := Tryz.isAgg291
  z168 := Tryz.sizeOf291
  v168 := Tryz.zeroValue291
  t171 := Tryz.underlying278
  a171 := Tryz.isAgg278
  z171 := Tryz.sizeOf278
  v171 := Tryz.zeroValue278
  t173 := Tryz.underlying280
  a173 := Tryz.isAgg280
  z173 := Tryz.sizeOf280
  v173 := Tryz.zeroValue280
  t175 := Tryz.underlying301
  a175 := Tryz.isAgg301
  z175 := Tryz.sizeOf301
  v175 := Tryz.zeroValue301
  t210 := Tryz.underlying304
  a210 := Tryz.isAgg304
  z210 := Tryz.sizeOf304
  v210 := Tryz.zeroValue304
  t212 := Tryz.underlying296
  a212 := Tryz.isAgg296
  z212 := Tryz.sizeOf296
  v212 := Tryz.zeroValue296
  t213 := Tryz.underlying297
  a213 := Tryz.isAgg297
  z213 := Tryz.sizeOf297
  t232 := Tryz.underlying316
  a232 := Tryz.isAgg316
  z232 := Tryz.sizeOf316
  v232 := Tryz.zeroValue316
  t233 := Tryz.underlying317
  a233 := Tryz.isAgg317
  z233 := Tryz.sizeOf317
  v233 := Tryz.zeroValue317
  g15 := by kernel_rfl
  g16 := by kernel_rfl
  g17 := by kernel_rfl
  g18 := by kernel_rfl
  g19 := by kernel_rfl
  t80 := Tryz.underlying273
  a80 := Tryz.isAgg273
  z80 := Tryz.sizeOf273
  v80 := Tryz.zeroValue273
  i0 := by kernel_rfl
  i2 := by kernel_rfl
  i3 := by kernel_rfl
  i4 := by kernel_rfl
  i5 := by kernel_rfl
  i9 := by kernel_rfl
  i20 := by kernel_rfl
  i21 := by kernel_rfl
  i37 := by kernel_rfl
  i46 := by kernel_rfl
  i51 := by kernel_rfl
  i53 := by kernel_rfl
  i75 := by kernel_rfl
  i76 := by kernel_rfl
  i80 := by kernel_rfl
  i85 := by kernel_rfl
  i127 := by kernel_rfl
  i143 := by kernel_rfl
  i145 := by kernel_rfl
  i167 := by kernel_rfl
  i168 := by kernel_rfl
  i171 := by kernel_rfl
  i173 := by kernel_rfl
  i175 := by kernel_rfl
  i210 := by kernel_rfl
  i212 := by kernel_rfl
  i232 := by kernel_rfl
  i233 := by kernel_rfl
  m15 := by kernel_rfl
  m16 := by kernel_rfl
  m17 := by kernel_rfl
  m18 := by kernel_rfl
  m19 := by kernel_rfl
  c0 := by kernel_rfl
  c2 := by kernel_rfl
  c3 := by kernel_rfl
  c4 := by kernel_rfl
  c5 := by kernel_rfl
  c9 := by kernel_rfl
  c20 := by kernel_rfl
  c21 := by kernel_rfl
  c37 := by kernel_rfl
  c46 := by kernel_rfl
  c51 := by kernel_rfl
  c53 := by kernel_rfl
  c75 := by kernel_rfl
  c76 := by kernel_rfl
  c80 := by kernel_rfl
  c85 := by kernel_rfl
  c127 := by kernel_rfl
  c143 := by kernel_rfl
  c145 := by kernel_rfl
  c167 := by kernel_rfl
  c168 := by kernel_rfl
  c171 := by kernel_rfl
  c173 := by kernel_rfl
  c175 := by kernel_rfl
  c210 := by kernel_rfl
  c212 := by kernel_rfl
  c213 := by kernel_rfl
  c232 := by kernel_rfl
  c233 := by kernel_rfl }
open Go.RowKit in
theorem Tryz.strconv_Atoi_ok (s : ByteArray) (hmax : s.size ≤ 9223372036854775806) (v : Int) (h : Lib.atoiAll s.data.toList = .ok v) (w : World) :
    Calls Tryz.prog 237 #[.string s] w fun e w' => e = .returned (.tuple #[.int .i64 v, .nilIface]) ∧ (w' = w ∨ ∃ t, w' = Lib.bytesWorld w 5 t) := Any.strconv_Atoi_ok Tryz.laysC172 s hmax v h w
def Tryz.lays145_ren : Go.Shelf.Ren := ⟨fun | 145 => 171 | 220 => 217 | 219 => 240 | 217 => 260 | 225 => 261 | 224 => 262 | 267 => 263 | 266 => 280 | 314 => 281 | n => n, fun | 9 => 9 | 4 => 4 | 59 => 200 | 3 => 3 | 5 => 5 | 46 => 113 | 146 => 172 | 51 => 171 | n => n, fun | 1 => 0 | n => n⟩
theorem Tryz.lays145 : Go.Proofs.Lays.n145 Tryz.prog Tryz.lays145_ren := {
  mixed := by kernel_rfl
  f145 := Tryz.func171.trans (congrArg some (by kernel_rfl))
  f217 := Tryz.func260.trans (congrArg some (by kernel_rfl))
  f219 := Tryz.func240.trans (congrArg some (by kernel_rfl))
  f220 := Tryz.func217.trans (congrArg some (by kernel_rfl))
  f224 := Tryz.func262.trans (congrArg some (by kernel_rfl))
  f225 := Tryz.func261.trans (congrArg some (by kernel_rfl))
  f266 := Tryz.func280.trans (congrArg some (by kernel_rfl))
  f267 := Tryz.func263.trans (congrArg some (by kernel_rfl))
  f314 := Tryz.func281.trans (congrArg some (by kernel_rfl))
  t3 := Tryz.underlying3
  a3 := Tryz.isAgg3
  z3 := Tryz.sizeOf3
  v3 := Tryz.zeroValue3
  t4 := Tryz.underlying4
  a4 := Tryz.isAgg4
  z4 := Tryz.sizeOf4
  v4 := Tryz.zeroValue4
  t5 := Tryz.underlying5
  a5 := Tryz.isAgg5
  z5 := Tryz.sizeOf5
  v5 := Tryz.zeroValue5
  t9 := Tryz.underlying9
  a9 := Tryz.isAgg9
  z9 := Tryz.sizeOf9
  v9 := Tryz.zeroValue9
  t46 := Tryz.underlying113
  a46 := Tryz.isAgg113
  z46 := Tryz.sizeOf113
  v46 := Tryz.zeroValue113
  t51 := Tryz.underlying171
  a51 := Tryz.isAgg171
  z51 := Tryz.sizeOf171
  v51 := Tryz.zeroValue171
  t59 := Tryz.underlying200
  a59 := Tryz.isAgg200
  z59 := Tryz.sizeOf200
  v59 := Tryz.zeroValue200
  t146 := Tryz.underlying172
  a146 := Tryz.isAgg172
  z146 := Tryz.sizeOf172
  v146 := Tryz.zeroValue172
  g1 := by kernel_rfl }
open Go.RowKit Go.Lib in
theorem Tryz.strings_Cut (s sep : ByteArray) (m : Int) (w : World) (hs : s.size < 4294967281) (hm : w.cell? ⟨0, 0, none⟩ = some (.int .i64 m)) :
    Calls Tryz.prog 171 #[.string s, .string sep] w fun e w' => e = .returned (.tuple #[.string ⟨(Lib.cut s.data.toList sep.data.toList).1.toArray⟩, .string ⟨(Lib.cut s.data.toList sep.data.toList).2.1.toArray⟩, .bool (Lib.cut s.data.toList sep.data.toList).2.2]) ∧ ∃ n, w' = w.drewN n := Any.strings_Cut Tryz.lays145 s sep m w hs hm
def Tryz.lays99_ren : Go.Shelf.Ren := ⟨fun | 99 => 210 | 206 => 235 | n => n, fun | 9 => 9 | 4 => 4 | 3 => 3 | n => n, fun | n => n⟩
theorem Tryz.lays99 : Go.Proofs.Lays.n99 Tryz.prog Tryz.lays99_ren := {
  mixed := by kernel_rfl
  f99 := Tryz.func210.trans (congrArg some (by kernel_rfl))
  f206 := Tryz.func235.trans (congrArg some (by kernel_rfl))
  t3 := Tryz.underlying3
  a3 := Tryz.isAgg3
  z3 := Tryz.sizeOf3
  v3 := Tryz.zeroValue3
  t4 := Tryz.underlying4
  a4 := Tryz.isAgg4
  z4 := Tryz.sizeOf4
  v4 := Tryz.zeroValue4
  t9 := Tryz.underlying9
  a9 := Tryz.isAgg9
  z9 := Tryz.sizeOf9
  v9 := Tryz.zeroValue9 }
open Go.RowKit Go.Lib in
theorem Tryz.strings_HasPrefix (s p : ByteArray) (w : World) :
    Calls Tryz.prog 210 #[.string s, .string p] w fun e w' => e = .returned (.bool (Lib.hasPrefix s.data.toList p.data.toList)) ∧ w' = w := Any.strings_HasPrefix Tryz.lays99 s p w
def Tryz.lays101_ren : Go.Shelf.Ren := ⟨fun | 101 => 175 | 208 => 219 | 206 => 235 | n => n, fun | 9 => 9 | 4 => 4 | 3 => 3 | n => n, fun | n => n⟩
theorem Tryz.lays101 : Go.Proofs.Lays.n101 Tryz.prog Tryz.lays101_ren := {
  mixed := by kernel_rfl
  f101 := Tryz.func175.trans (congrArg some (by kernel_rfl))
  f206 := Tryz.func235.trans (congrArg some (by kernel_rfl))
  f208 := Tryz.func219.trans (congrArg some (by kernel_rfl))
  t3 := Tryz.underlying3
  a3 := Tryz.isAgg3
  z3 := Tryz.sizeOf3
  v3 := Tryz.zeroValue3
  t4 := Tryz.underlying4
  a4 := Tryz.isAgg4
  z4 := Tryz.sizeOf4
  v4 := Tryz.zeroValue4
  t9 := Tryz.underlying9
  a9 := Tryz.isAgg9
  z9 := Tryz.sizeOf9
  v9 := Tryz.zeroValue9 }
open Go.RowKit Go.Lib in
theorem Tryz.strings_TrimPrefix (s p : ByteArray) (w : World) :
    Calls Tryz.prog 175 #[.string s, .string p] w fun e w' => e = .returned (.string ⟨(Lib.trimPrefix s.data.toList p.data.toList).toArray⟩) ∧ w' = w := Any.strings_TrimPrefix Tryz.lays101 s p w
end Go.Proofs

