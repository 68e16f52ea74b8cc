/-
  DERIVED: THE SHELF's CONTRACTS AT THIS DUMP, IN PLAIN WORDS (tools/lay-plain.mjs out of 'TryzShelf.lean', which tools/lay-shelf.mjs wrote): THE SAME DECLARATIONS UNDER THE SAME NAMES: 'import', 'namespace', 'open', 'def', 'theorem' AND NOTHING ELSE: no command of the shelf's: FOR A HAND-IN. Each laying: the table of numbers ('.._ren') and one theorem, a field a fact of the dump's own or the kernel's comparison; each contract: ONE APPLICATION.
-/
import Derived.Shelf.Strings.Builder1
import Derived.Shelf.Strings.Trim
import Derived.Shelf.Strings.SlTrimAscii
import Derived.Shelf.Small.Utf8
import Derived.Shelf.Small.Bits
import Derived.Shelf.Small.Strs
import Derived.Shelf.Strings.BuilderF
import Derived.Shelf.Strings.BuilderK
import Derived.Shelf.Strconv.Atoi
import Derived.Shelf.Strconv.Itoa0
import Derived.Shelf.Strconv.Itoa1
import Derived.Shelf.LaysM
import Derived.Shelf.Strconv.Itoa2
import Derived.Shelf.Strconv.Itoa3
import Derived.Shelf.Strconv.AtoiErrFast
import Derived.Shelf.Strconv.ParseIntEmpty
import Derived.Shelf.Strconv.AtoiFail
import Derived.Shelf.Strconv.Clone
import Derived.Shelf.Strconv.SyntaxError
import Derived.Shelf.LaysC
import Derived.Shelf.Strconv.ToError
import Derived.Shelf.Strconv.Lower
import Derived.Shelf.Strconv.ParseUint10
import Derived.Shelf.Strconv.ParseUint10Empty
import Derived.Shelf.Strconv.ParseUint10Any
import Derived.Shelf.Strconv.ParseInt10
import Derived.Shelf.Strconv.AtoiLong
import Derived.Shelf.Strconv.AtoiInnerAll
import Derived.Shelf.Strconv.RangeError
import Derived.Shelf.Strconv.ToErrorRange
import Derived.Shelf.Strconv.AtoiAll
import Derived.Shelf.Strconv.ErrVarAll
import Derived.Shelf.Strings.Search1
import Derived.Shelf.Strings.Search2
import Derived.Shelf.Strings.Cut
import Derived.Shelf.Strings.Shaped
import Derived.Shelf.Strings.Prefix
import Derived.Shelf.Unicode.Decode
import Derived.Shelf.Strings.Runes
import Derived.Shelf.Strings.AsciiSet
import Derived.Shelf.Unicode.DecodeSlow
import Derived.Shelf.Unicode.DecodeAny
import Derived.Shelf.Unicode.DecodeLast
import Derived.Test.YtellemlhhlafcaaGreatDoorProg
namespace Go.Proofs
open Go.Shelf
def Tryz.lays169_ren : Go.Shelf.Ren := ⟨fun | 169 => 189 | n => n, fun | 70 => 299 | 9 => 9 | 0 => 0 | 72 => 302 | 37 => 300 | 127 => 325 | 3 => 3 | 5 => 5 | n => n, fun | n => n⟩
theorem Tryz.lays169 : Go.Proofs.Lays.n169 Tryz.prog Tryz.lays169_ren := {
  mixed := by kernel_rfl
  f169 := Tryz.func189.trans (congrArg some (by kernel_rfl))
  t0 := Tryz.underlying0
  a0 := Tryz.isAgg0
  z0 := Tryz.sizeOf0
  v0 := Tryz.zeroValue0
  t3 := Tryz.underlying3
  a3 := Tryz.isAgg3
  z3 := Tryz.sizeOf3
  v3 := Tryz.zeroValue3
  t9 := Tryz.underlying9
  a9 := Tryz.isAgg9
  z9 := Tryz.sizeOf9
  v9 := Tryz.zeroValue9
  t37 := Tryz.underlying300
  a37 := Tryz.isAgg300
  z37 := Tryz.sizeOf300
  v37 := Tryz.zeroValue300
  t70 := Tryz.underlying299
  a70 := Tryz.isAgg299
  z70 := Tryz.sizeOf299
  v70 := Tryz.zeroValue299
  t72 := Tryz.underlying302
  a72 := Tryz.isAgg302
  z72 := Tryz.sizeOf302
  v72 := Tryz.zeroValue302
  t127 := Tryz.underlying325
  a127 := Tryz.isAgg325
  z127 := Tryz.sizeOf325
  v127 := Tryz.zeroValue325 }
theorem Tryz.Builder_Extra_169 : Builder.Extra Tryz.prog Tryz.lays169_ren := {
  sizeBuilder := by kernel_rfl
  liesBuilder := by kernel_rfl
  t5 := Tryz.underlying5
  a5 := Tryz.isAgg5
  z5 := Tryz.sizeOf5
  v5 := Tryz.zeroValue5
  infoByte := by kernel_rfl
  cellsByte := by kernel_rfl
  sizeByte := by kernel_rfl
  neB5 := by decide }
open Go.RowKit in
theorem Tryz.Builder_String_any (B b : Nat) (l : List UInt8) (w : World) (h : Lib.IsBuilder 302 5 B b (Lib.byteCells l) w) (hBw : B ≤ w.heap.size) :
    Calls Tryz.prog 189 #[.pointer (some ⟨b, 0, none⟩)] w fun e w' => e = .returned (.string ⟨l.toArray⟩) ∧ Below B w w' := Any.Builder_String_any Tryz.lays169 Tryz.Builder_Extra_169 B b l w h hBw
def Tryz.lays160_ren : Go.Shelf.Ren := ⟨fun | 160 => 137 | 232 => 175 | 231 => 174 | 227 => 176 | 234 => 178 | 233 => 177 | 236 => 180 | 235 => 179 | 228 => 214 | 271 => 217 | 151 => 216 | 197 => 215 | 120 => 238 | 152 => 237 | 260 => 236 | 137 => 256 | 119 => 257 | 224 => 234 | 225 => 233 | 217 => 232 | 266 => 254 | n => n, fun | 9 => 9 | 4 => 4 | 3 => 3 | 5 => 5 | 117 => 287 | 116 => 286 | 0 => 0 | 124 => 290 | 21 => 21 | 105 => 320 | 46 => 307 | 119 => 355 | 139 => 358 | 138 => 357 | n => n, fun | 3 => 2 | 4 => 3 | n => n⟩
theorem Tryz.lays160 : Go.Proofs.Lays.n160 Tryz.prog Tryz.lays160_ren := {
  mixed := by kernel_rfl
  f119 := Tryz.func257.trans (congrArg some (by kernel_rfl))
  f120 := Tryz.func238.trans (congrArg some (by kernel_rfl))
  f137 := Tryz.func256.trans (congrArg some (by kernel_rfl))
  f151 := Tryz.func216.trans (congrArg some (by kernel_rfl))
  f152 := Tryz.func237.trans (congrArg some (by kernel_rfl))
  f160 := Tryz.func137.trans (congrArg some (by kernel_rfl))
  f197 := Tryz.func215.trans (congrArg some (by kernel_rfl))
  f217 := Tryz.func232.trans (congrArg some (by kernel_rfl))
  f224 := Tryz.func234.trans (congrArg some (by kernel_rfl))
  f225 := Tryz.func233.trans (congrArg some (by kernel_rfl))
  f227 := Tryz.func176.trans (congrArg some (by kernel_rfl))
  f228 := Tryz.func214.trans (congrArg some (by kernel_rfl))
  f231 := Tryz.func174.trans (congrArg some (by kernel_rfl))
  f232 := Tryz.func175.trans (congrArg some (by kernel_rfl))
  f233 := Tryz.func177.trans (congrArg some (by kernel_rfl))
  f234 := Tryz.func178.trans (congrArg some (by kernel_rfl))
  f235 := Tryz.func179.trans (congrArg some (by kernel_rfl))
  f236 := Tryz.func180.trans (congrArg some (by kernel_rfl))
  f260 := Tryz.func236.trans (congrArg some (by kernel_rfl))
  f266 := Tryz.func254.trans (congrArg some (by kernel_rfl))
  f271 := Tryz.func217.trans (congrArg some (by kernel_rfl))
  t0 := Tryz.underlying0
  a0 := Tryz.isAgg0
  z0 := Tryz.sizeOf0
  v0 := Tryz.zeroValue0
  t3 := Tryz.underlying3
  a3 := Tryz.isAgg3
  z3 := Tryz.sizeOf3
  v3 := Tryz.zeroValue3
  t4 := Tryz.underlying4
  a4 := Tryz.isAgg4
  z4 := Tryz.sizeOf4
  v4 := Tryz.zeroValue4
  t5 := Tryz.underlying5
  a5 := Tryz.isAgg5
  z5 := Tryz.sizeOf5
  v5 := Tryz.zeroValue5
  t9 := Tryz.underlying9
  a9 := Tryz.isAgg9
  z9 := Tryz.sizeOf9
  v9 := Tryz.zeroValue9
  t21 := Tryz.underlying21
  a21 := Tryz.isAgg21
  z21 := Tryz.sizeOf21
  v21 := Tryz.zeroValue21
  t46 := Tryz.underlying307
  a46 := Tryz.isAgg307
  z46 := Tryz.sizeOf307
  v46 := Tryz.zeroValue307
  t105 := Tryz.underlying320
  a105 := Tryz.isAgg320
  z105 := Tryz.sizeOf320
  v105 := Tryz.zeroValue320
  t116 := Tryz.underlying286
  a116 := Tryz.isAgg286
  z116 := Tryz.sizeOf286
  t117 := Tryz.underlying287
  a117 := Tryz.isAgg287
  z117 := Tryz.sizeOf287
  v117 := Tryz.zeroValue287
  t119 := Tryz.underlying355
  a119 := Tryz.isAgg355
  z119 := Tryz.sizeOf355
  t124 := Tryz.underlying290
  a124 := Tryz.isAgg290
  z124 := Tryz.sizeOf290
  v124 := Tryz.zeroValue290
  t138 := Tryz.underlying357
  a138 := Tryz.isAgg357
  z138 := Tryz.sizeOf357
  v138 := Tryz.zeroValue357
  t139 := Tryz.underlying358
  a139 := Tryz.isAgg358
  z139 := Tryz.sizeOf358
  v139 := Tryz.zeroValue358
  g3 := by kernel_rfl
  g4 := by kernel_rfl }
def Tryz.lays106_ren : Go.Shelf.Ren := ⟨fun | 106 => 181 | 213 => 218 | 265 => 239 | n => n, fun | 9 => 9 | 3 => 3 | n => n, fun | n => n⟩
theorem Tryz.lays106 : Go.Proofs.Lays.n106 Tryz.prog Tryz.lays106_ren := {
  mixed := by kernel_rfl
  f106 := Tryz.func181.trans (congrArg some (by kernel_rfl))
  f213 := Tryz.func218.trans (congrArg some (by kernel_rfl))
  f265 := Tryz.func239.trans (congrArg some (by kernel_rfl))
  t3 := Tryz.underlying3
  a3 := Tryz.isAgg3
  z3 := Tryz.sizeOf3
  v3 := Tryz.zeroValue3
  t9 := Tryz.underlying9
  a9 := Tryz.isAgg9
  z9 := Tryz.sizeOf9
  v9 := Tryz.zeroValue9 }
open Go.RowKit in
theorem Tryz.strings_Compare (a b : ByteArray) (w : World) :
    Calls Tryz.prog 181 #[.string a, .string b] w fun e w' => e = .returned (.int .i64 (Lib.compareBytes a.data.toList b.data.toList)) ∧ w' = w := Any.strings_Compare Tryz.lays106 a b w
def Tryz.laysM171_ren : Go.Shelf.Ren := ⟨fun | 171 => 168 | 243 => 207 | 246 => 231 | 283 => 250 | 284 => 251 | 285 => 252 | 286 => 253 | 129 => 262 | 317 => 261 | 318 => 263 | 319 => 264 | 320 => 265 | 337 => 268 | 338 => 269 | n => n, fun | 3 => 3 | 9 => 9 | 2 => 2 | 4 => 4 | 171 => 349 | 0 => 0 | 53 => 330 | 37 => 300 | 5 => 5 | 173 => 352 | 212 => 367 | 51 => 327 | 20 => 20 | 213 => 368 | 46 => 307 | 232 => 376 | 233 => 377 | n => n, fun | 17 => 6 | 18 => 7 | 19 => 8 | n => n⟩
theorem Tryz.laysM171 : Go.Proofs.LaysM.n171 Tryz.prog Tryz.laysM171_ren := {
  mixed := by kernel_rfl
  f129 := Tryz.func262.trans (congrArg some (by kernel_rfl))
  f171 := Tryz.func168.trans (congrArg some (by kernel_rfl))
  f243 := Tryz.func207.trans (congrArg some (by kernel_rfl))
  f246 := Tryz.func231.trans (congrArg some (by kernel_rfl))
  f283 := Tryz.func250.trans (congrArg some (by kernel_rfl))
  f284 := Tryz.func251.trans (congrArg some (by kernel_rfl))
  f285 := Tryz.func252.trans (congrArg some (by kernel_rfl))
  f286 := Tryz.func253.trans (congrArg some (by kernel_rfl))
  f317 := Tryz.func261.trans (congrArg some (by kernel_rfl))
  f318 := Tryz.func263.trans (congrArg some (by kernel_rfl))
  f319 := Tryz.func264.trans (congrArg some (by kernel_rfl))
  f320 := Tryz.func265.trans (congrArg some (by kernel_rfl))
  f337 := Tryz.func268.trans (congrArg some (by kernel_rfl))
  f338 := Tryz.func269.trans (congrArg some (by kernel_rfl))
  t0 := Tryz.underlying0
  a0 := Tryz.isAgg0
  z0 := Tryz.sizeOf0
  v0 := Tryz.zeroValue0
  t2 := Tryz.underlying2
  a2 := Tryz.isAgg2
  z2 := Tryz.sizeOf2
  v2 := Tryz.zeroValue2
  t3 := Tryz.underlying3
  a3 := Tryz.isAgg3
  z3 := Tryz.sizeOf3
  v3 := Tryz.zeroValue3
  t4 := Tryz.underlying4
  a4 := Tryz.isAgg4
  z4 := Tryz.sizeOf4
  v4 := Tryz.zeroValue4
  t5 := Tryz.underlying5
  a5 := Tryz.isAgg5
  z5 := Tryz.sizeOf5
  v5 := Tryz.zeroValue5
  t9 := Tryz.underlying9
  a9 := Tryz.isAgg9
  z9 := Tryz.sizeOf9
  v9 := Tryz.zeroValue9
  t20 := Tryz.underlying20
  a20 := Tryz.isAgg20
  z20 := Tryz.sizeOf20
  v20 := Tryz.zeroValue20
  t37 := Tryz.underlying300
  a37 := Tryz.isAgg300
  z37 := Tryz.sizeOf300
  v37 := Tryz.zeroValue300
  t46 := Tryz.underlying307
  a46 := Tryz.isAgg307
  z46 := Tryz.sizeOf307
  v46 := Tryz.zeroValue307
  t51 := Tryz.underlying327
  a51 := Tryz.isAgg327
  z51 := Tryz.sizeOf327
  v51 := Tryz.zeroValue327
  t53 := Tryz.underlying330
  a53 := Tryz.isAgg330
  z53 := Tryz.sizeOf330
  v53 := Tryz.zeroValue330
  t171 := Tryz.underlying349
  a171 := Tryz.isAgg349
  z171 := Tryz.sizeOf349
  v171 := Tryz.zeroValue349
  t173 := Tryz.underlying352
  a173 := Tryz.isAgg352
  z173 := Tryz.sizeOf352
  v173 := Tryz.zeroValue352
  t212 := Tryz.underlying367
  a212 := Tryz.isAgg367
  z212 := Tryz.sizeOf367
  v212 := Tryz.zeroValue367
  t213 := Tryz.underlying368
  a213 := Tryz.isAgg368
  z213 := Tryz.sizeOf368
  t232 := Tryz.underlying376
  a232 := Tryz.isAgg376
  z232 := Tryz.sizeOf376
  v232 := Tryz.zeroValue376
  t233 := Tryz.underlying377
  a233 := Tryz.isAgg377
  z233 := Tryz.sizeOf377
  v233 := Tryz.zeroValue377
  g17 := by kernel_rfl
  g18 := by kernel_rfl
  g19 := by kernel_rfl
  i0 := by kernel_rfl
  i2 := by kernel_rfl
  i3 := by kernel_rfl
  i4 := by kernel_rfl
  i5 := by kernel_rfl
  i9 := by kernel_rfl
  i20 := by kernel_rfl
  i37 := by kernel_rfl
  i46 := by kernel_rfl
  i51 := by kernel_rfl
  i53 := by kernel_rfl
  i171 := by kernel_rfl
  i173 := by kernel_rfl
  i212 := by kernel_rfl
  i232 := by kernel_rfl
  i233 := by kernel_rfl
  m17 := by kernel_rfl
  m18 := by kernel_rfl
  m19 := by kernel_rfl }
open Go.RowKit Go.Sort Go.Lib in
theorem Tryz.strconv_Itoa (n : Int) (h0 : -9223372036854775808 ≤ n) (h1 : n ≤ 9223372036854775807) (w : World) (htab : Lib.TabIs Tryz.prog w "internal/strconv.uint64pow10" .u64 Lib.pow10Tab) :
    Calls Tryz.prog 168 #[.int .i64 n] w fun e w' => e = .returned (.string ⟨(Lib.itoa n).toArray⟩) ∧ ∃ k os, w' = grow (w.drewN k) os := Any.strconv_Itoa Tryz.laysM171 n h0 h1 w htab
def Tryz.laysC172_ren : Go.Shelf.Ren := ⟨fun | 172 => 182 | 244 => 219 | 245 => 220 | 247 => 240 | 279 => 241 | 280 => 242 | 281 => 243 | 282 => 244 | 287 => 258 | 316 => 259 | 171 => 168 | 205 => 260 | 321 => 266 | 322 => 267 | 243 => 207 | 246 => 231 | 283 => 250 | 284 => 251 | 285 => 252 | 286 => 253 | 129 => 262 | 317 => 261 | 318 => 263 | 319 => 264 | 320 => 265 | 337 => 268 | 338 => 269 | n => n, fun | 9 => 9 | 3 => 3 | 75 => 292 | 76 => 293 | 4 => 4 | 5 => 5 | 167 => 338 | 37 => 300 | 0 => 0 | 85 => 339 | 2 => 2 | 168 => 341 | 53 => 330 | 175 => 360 | 46 => 307 | 210 => 364 | 127 => 325 | 145 => 374 | 143 => 372 | 21 => 21 | 171 => 349 | 173 => 352 | 212 => 367 | 51 => 327 | 20 => 20 | 213 => 368 | 232 => 376 | 233 => 377 | 80 => 304 | n => n, fun | 15 => 4 | 16 => 5 | 17 => 6 | 18 => 7 | 19 => 8 | n => n⟩
theorem Tryz.laysC172 : Go.Proofs.LaysC.n172 Tryz.prog Tryz.laysC172_ren := {
  mixed := by kernel_rfl
  f129 := Tryz.func262.trans (congrArg some (by kernel_rfl))
  f171 := Tryz.func168.trans (congrArg some (by kernel_rfl))
  f172 := Tryz.func182.trans (congrArg some (by kernel_rfl))
  f205 := Tryz.func260.trans (congrArg some (by kernel_rfl))
  f243 := Tryz.func207.trans (congrArg some (by kernel_rfl))
  f244 := Tryz.func219.trans (congrArg some (by kernel_rfl))
  f245 := Tryz.func220.trans (congrArg some (by kernel_rfl))
  f246 := Tryz.func231.trans (congrArg some (by kernel_rfl))
  f247 := Tryz.func240.trans (congrArg some (by kernel_rfl))
  f279 := Tryz.func241.trans (congrArg some (by kernel_rfl))
  f280 := Tryz.func242.trans (congrArg some (by kernel_rfl))
  f281 := Tryz.func243.trans (congrArg some (by kernel_rfl))
  f282 := Tryz.func244.trans (congrArg some (by kernel_rfl))
  f283 := Tryz.func250.trans (congrArg some (by kernel_rfl))
  f284 := Tryz.func251.trans (congrArg some (by kernel_rfl))
  f285 := Tryz.func252.trans (congrArg some (by kernel_rfl))
  f286 := Tryz.func253.trans (congrArg some (by kernel_rfl))
  f287 := Tryz.func258.trans (congrArg some (by kernel_rfl))
  f316 := Tryz.func259.trans (congrArg some (by kernel_rfl))
  f317 := Tryz.func261.trans (congrArg some (by kernel_rfl))
  f318 := Tryz.func263.trans (congrArg some (by kernel_rfl))
  f319 := Tryz.func264.trans (congrArg some (by kernel_rfl))
  f320 := Tryz.func265.trans (congrArg some (by kernel_rfl))
  f321 := Tryz.func266.trans (congrArg some (by kernel_rfl))
  f322 := Tryz.func267.trans (congrArg some (by kernel_rfl))
  f337 := Tryz.func268.trans (congrArg some (by kernel_rfl))
  f338 := Tryz.func269.trans (congrArg some (by kernel_rfl))
  t0 := Tryz.underlying0
  a0 := Tryz.isAgg0
  z0 := Tryz.sizeOf0
  v0 := Tryz.zeroValue0
  t2 := Tryz.underlying2
  a2 := Tryz.isAgg2
  z2 := Tryz.sizeOf2
  v2 := Tryz.zeroValue2
  t3 := Tryz.underlying3
  a3 := Tryz.isAgg3
  z3 := Tryz.sizeOf3
  v3 := Tryz.zeroValue3
  t4 := Tryz.underlying4
  a4 := Tryz.isAgg4
  z4 := Tryz.sizeOf4
  v4 := Tryz.zeroValue4
  t5 := Tryz.underlying5
  a5 := Tryz.isAgg5
  z5 := Tryz.sizeOf5
  v5 := Tryz.zeroValue5
  t9 := Tryz.underlying9
  a9 := Tryz.isAgg9
  z9 := Tryz.sizeOf9
  v9 := Tryz.zeroValue9
  t20 := Tryz.underlying20
  a20 := Tryz.isAgg20
  z20 := Tryz.sizeOf20
  v20 := Tryz.zeroValue20
  t21 := Tryz.underlying21
  a21 := Tryz.isAgg21
  z21 := Tryz.sizeOf21
  v21 := Tryz.zeroValue21
  t37 := Tryz.underlying300
  a37 := Tryz.isAgg300
  z37 := Tryz.sizeOf300
  v37 := Tryz.zeroValue300
  t46 := Tryz.underlying307
  a46 := Tryz.isAgg307
  z46 := Tryz.sizeOf307
  v46 := Tryz.zeroValue307
  t51 := Tryz.underlying327
  a51 := Tryz.isAgg327
  z51 := Tryz.sizeOf327
  v51 := Tryz.zeroValue327
  t53 := Tryz.underlying330
  a53 := Tryz.isAgg330
  z53 := Tryz.sizeOf330
  v53 := Tryz.zeroValue330
  t75 := Tryz.underlying292
  a75 := Tryz.isAgg292
  z75 := Tryz.sizeOf292
  v75 := Tryz.zeroValue292
  t76 := Tryz.underlying293
  a76 := Tryz.isAgg293
  z76 := Tryz.sizeOf293
  v76 := Tryz.zeroValue293
  t85 := Tryz.underlying339
  a85 := Tryz.isAgg339
  z85 := Tryz.sizeOf339
  v85 := Tryz.zeroValue339
  t127 := Tryz.underlying325
  a127 := Tryz.isAgg325
  z127 := Tryz.sizeOf325
  v127 := Tryz.zeroValue325
  t143 := Tryz.underlying372
  a143 := Tryz.isAgg372
  z143 := Tryz.sizeOf372
  v143 := Tryz.zeroValue372
  t145 := Tryz.underlying374
  a145 := Tryz.isAgg374
  z145 := Tryz.sizeOf374
  v145 := Tryz.zeroValue374
  t167 := Tryz.underlying338
  a167 := Tryz.isAgg338
  z167 := Tryz.sizeOf338
  v167 := Tryz.zeroValue338
  t168 := Tryz.underlying341
  a168 := Tryz.isAgg341
  z168 := Tryz.sizeOf341
  v168 := Tryz.zeroValue341
  t171 := Tryz.underlying349
  a171 := Tryz.isAgg349
  z171 := Tryz.sizeOf349
  v171 := Tryz.zeroValue349
  t173 := Tryz.underlying352
  a173 := Tryz.isAgg352
  z173 := Tryz.sizeOf352
  v173 := Tryz.zeroValue352
  t175 := Tryz.underlying360
  a175 := Tryz.isAgg360
  z175 := Tryz.sizeOf360
  v175 := Tryz.zeroValue360
  t210 := Tryz.underlying364
  a210 := Tryz.isAgg364
  z210 := Tryz.sizeOf364
  v210 := Tryz.zeroValue364
  t212 := Tryz.underlying367
  a212 := Tryz.isAgg367
  z212 := Tryz.sizeOf367
  v212 := Tryz.zeroValue367
  t213 := Tryz.underlying368
  a213 := Tryz.isAgg368
  z213 := Tryz.sizeOf368
  t232 := Tryz.underlying376
  a232 := Tryz.isAgg376
  z232 := Tryz.sizeOf376
  v232 := Tryz.zeroValue376
  t233 := Tryz.underlying377
  a233 := Tryz.isAgg377
  z233 := Tryz.sizeOf377
  v233 := Tryz.zeroValue377
  g15 := by kernel_rfl
  g16 := by kernel_rfl
  g17 := by kernel_rfl
  g18 := by kernel_rfl
  g19 := by kernel_rfl
  t80 := Tryz.underlying304
  a80 := Tryz.isAgg304
  z80 := Tryz.sizeOf304
  v80 := Tryz.zeroValue304
  i0 := by kernel_rfl
  i2 := by kernel_rfl
  i3 := by kernel_rfl
  i4 := by kernel_rfl
  i5 := by kernel_rfl
  i9 := by kernel_rfl
  i20 := by kernel_rfl
  i21 := by kernel_rfl
  i37 := by kernel_rfl
  i46 := by kernel_rfl
  i51 := by kernel_rfl
  i53 := by kernel_rfl
  i75 := by kernel_rfl
  i76 := by kernel_rfl
  i80 := by kernel_rfl
  i85 := by kernel_rfl
  i127 := by kernel_rfl
  i143 := by kernel_rfl
  i145 := by kernel_rfl
  i167 := by kernel_rfl
  i168 := by kernel_rfl
  i171 := by kernel_rfl
  i173 := by kernel_rfl
  i175 := by kernel_rfl
  i210 := by kernel_rfl
  i212 := by kernel_rfl
  i232 := by kernel_rfl
  i233 := by kernel_rfl
  m15 := by kernel_rfl
  m16 := by kernel_rfl
  m17 := by kernel_rfl
  m18 := by kernel_rfl
  m19 := by kernel_rfl
  c0 := by kernel_rfl
  c2 := by kernel_rfl
  c3 := by kernel_rfl
  c4 := by kernel_rfl
  c5 := by kernel_rfl
  c9 := by kernel_rfl
  c20 := by kernel_rfl
  c21 := by kernel_rfl
  c37 := by kernel_rfl
  c46 := by kernel_rfl
  c51 := by kernel_rfl
  c53 := by kernel_rfl
  c75 := by kernel_rfl
  c76 := by kernel_rfl
  c80 := by kernel_rfl
  c85 := by kernel_rfl
  c127 := by kernel_rfl
  c143 := by kernel_rfl
  c145 := by kernel_rfl
  c167 := by kernel_rfl
  c168 := by kernel_rfl
  c171 := by kernel_rfl
  c173 := by kernel_rfl
  c175 := by kernel_rfl
  c210 := by kernel_rfl
  c212 := by kernel_rfl
  c213 := by kernel_rfl
  c232 := by kernel_rfl
  c233 := by kernel_rfl }
open Go.RowKit in
theorem Tryz.strconv_Atoi_ok (s : ByteArray) (hmax : s.size ≤ 9223372036854775806) (v : Int) (h : Lib.atoiAll s.data.toList = .ok v) (w : World) :
    Calls Tryz.prog 182 #[.string s] w fun e w' => e = .returned (.tuple #[.int .i64 v, .nilIface]) ∧ (w' = w ∨ ∃ t, w' = Lib.bytesWorld w 5 t) := Any.strconv_Atoi_ok Tryz.laysC172 s hmax v h w
def Tryz.lays145_ren : Go.Shelf.Ren := ⟨fun | 145 => 135 | 220 => 172 | 219 => 212 | 217 => 232 | 225 => 233 | 224 => 234 | 267 => 235 | 266 => 254 | 314 => 255 | n => n, fun | 9 => 9 | 4 => 4 | 59 => 237 | 3 => 3 | 5 => 5 | 46 => 307 | 146 => 328 | 51 => 327 | n => n, fun | 1 => 1 | n => n⟩
theorem Tryz.lays145 : Go.Proofs.Lays.n145 Tryz.prog Tryz.lays145_ren := {
  mixed := by kernel_rfl
  f145 := Tryz.func135.trans (congrArg some (by kernel_rfl))
  f217 := Tryz.func232.trans (congrArg some (by kernel_rfl))
  f219 := Tryz.func212.trans (congrArg some (by kernel_rfl))
  f220 := Tryz.func172.trans (congrArg some (by kernel_rfl))
  f224 := Tryz.func234.trans (congrArg some (by kernel_rfl))
  f225 := Tryz.func233.trans (congrArg some (by kernel_rfl))
  f266 := Tryz.func254.trans (congrArg some (by kernel_rfl))
  f267 := Tryz.func235.trans (congrArg some (by kernel_rfl))
  f314 := Tryz.func255.trans (congrArg some (by kernel_rfl))
  t3 := Tryz.underlying3
  a3 := Tryz.isAgg3
  z3 := Tryz.sizeOf3
  v3 := Tryz.zeroValue3
  t4 := Tryz.underlying4
  a4 := Tryz.isAgg4
  z4 := Tryz.sizeOf4
  v4 := Tryz.zeroValue4
  t5 := Tryz.underlying5
  a5 := Tryz.isAgg5
  z5 := Tryz.sizeOf5
  v5 := Tryz.zeroValue5
  t9 := Tryz.underlying9
  a9 := Tryz.isAgg9
  z9 := Tryz.sizeOf9
  v9 := Tryz.zeroValue9
  t46 := Tryz.underlying307
  a46 := Tryz.isAgg307
  z46 := Tryz.sizeOf307
  v46 := Tryz.zeroValue307
  t51 := Tryz.underlying327
  a51 := Tryz.isAgg327
  z51 := Tryz.sizeOf327
  v51 := Tryz.zeroValue327
  t59 := Tryz.underlying237
  a59 := Tryz.isAgg237
  z59 := Tryz.sizeOf237
  v59 := Tryz.zeroValue237
  t146 := Tryz.underlying328
  a146 := Tryz.isAgg328
  z146 := Tryz.sizeOf328
  v146 := Tryz.zeroValue328
  g1 := by kernel_rfl }
open Go.RowKit Go.Lib in
theorem Tryz.strings_Cut (s sep : ByteArray) (m : Int) (w : World) (hs : s.size < 4294967281) (hm : w.cell? ⟨1, 0, none⟩ = some (.int .i64 m)) :
    Calls Tryz.prog 135 #[.string s, .string sep] w fun e w' => e = .returned (.tuple #[.string ⟨(Lib.cut s.data.toList sep.data.toList).1.toArray⟩, .string ⟨(Lib.cut s.data.toList sep.data.toList).2.1.toArray⟩, .bool (Lib.cut s.data.toList sep.data.toList).2.2]) ∧ ∃ n, w' = w.drewN n := Any.strings_Cut Tryz.lays145 s sep m w hs hm
def Tryz.lays99_ren : Go.Shelf.Ren := ⟨fun | 99 => 205 | 206 => 213 | n => n, fun | 9 => 9 | 4 => 4 | 3 => 3 | n => n, fun | n => n⟩
theorem Tryz.lays99 : Go.Proofs.Lays.n99 Tryz.prog Tryz.lays99_ren := {
  mixed := by kernel_rfl
  f99 := Tryz.func205.trans (congrArg some (by kernel_rfl))
  f206 := Tryz.func213.trans (congrArg some (by kernel_rfl))
  t3 := Tryz.underlying3
  a3 := Tryz.isAgg3
  z3 := Tryz.sizeOf3
  v3 := Tryz.zeroValue3
  t4 := Tryz.underlying4
  a4 := Tryz.isAgg4
  z4 := Tryz.sizeOf4
  v4 := Tryz.zeroValue4
  t9 := Tryz.underlying9
  a9 := Tryz.isAgg9
  z9 := Tryz.sizeOf9
  v9 := Tryz.zeroValue9 }
open Go.RowKit Go.Lib in
theorem Tryz.strings_HasPrefix (s p : ByteArray) (w : World) :
    Calls Tryz.prog 205 #[.string s, .string p] w fun e w' => e = .returned (.bool (Lib.hasPrefix s.data.toList p.data.toList)) ∧ w' = w := Any.strings_HasPrefix Tryz.lays99 s p w
def Tryz.lays101_ren : Go.Shelf.Ren := ⟨fun | 101 => 136 | 208 => 173 | 206 => 213 | n => n, fun | 9 => 9 | 4 => 4 | 3 => 3 | n => n, fun | n => n⟩
theorem Tryz.lays101 : Go.Proofs.Lays.n101 Tryz.prog Tryz.lays101_ren := {
  mixed := by kernel_rfl
  f101 := Tryz.func136.trans (congrArg some (by kernel_rfl))
  f206 := Tryz.func213.trans (congrArg some (by kernel_rfl))
  f208 := Tryz.func173.trans (congrArg some (by kernel_rfl))
  t3 := Tryz.underlying3
  a3 := Tryz.isAgg3
  z3 := Tryz.sizeOf3
  v3 := Tryz.zeroValue3
  t4 := Tryz.underlying4
  a4 := Tryz.isAgg4
  z4 := Tryz.sizeOf4
  v4 := Tryz.zeroValue4
  t9 := Tryz.underlying9
  a9 := Tryz.isAgg9
  z9 := Tryz.sizeOf9
  v9 := Tryz.zeroValue9 }
open Go.RowKit Go.Lib in
theorem Tryz.strings_TrimPrefix (s p : ByteArray) (w : World) :
    Calls Tryz.prog 136 #[.string s, .string p] w fun e w' => e = .returned (.string ⟨(Lib.trimPrefix s.data.toList p.data.toList).toArray⟩) ∧ w' = w := Any.strings_TrimPrefix Tryz.lays101 s p w
end Go.Proofs

