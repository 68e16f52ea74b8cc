/-
  DERIVED: THE SHELF's CONTRACTS AT THIS DUMP, IN PLAIN WORDS (tools/lay-plain.mjs out of 'TryzShelf.lean', which tools/lay-shelf.mjs wrote): THE SAME DECLARATIONS UNDER THE SAME NAMES: 'import', 'namespace', 'open', 'def', 'theorem' AND NOTHING ELSE: no command of the shelf's: FOR A HAND-IN. Each laying: the table of numbers ('.._ren') and one theorem, a field a fact of the dump's own or the kernel's comparison; each contract: ONE APPLICATION.
-/
import Derived.Shelf.Strings.Builder1
import Derived.Shelf.Strings.Trim
import Derived.Shelf.Strings.SlTrimAscii
import Derived.Shelf.Small.Utf8
import Derived.Shelf.Small.Bits
import Derived.Shelf.Small.Strs
import Derived.Shelf.Strings.BuilderF
import Derived.Shelf.Strings.BuilderK
import Derived.Shelf.Strconv.Atoi
import Derived.Shelf.Strconv.Itoa0
import Derived.Shelf.Strconv.Itoa1
import Derived.Shelf.LaysM
import Derived.Shelf.Strconv.Itoa2
import Derived.Shelf.Strconv.Itoa3
import Derived.Shelf.Strconv.AtoiErrFast
import Derived.Shelf.Strconv.ParseIntEmpty
import Derived.Shelf.Strconv.AtoiFail
import Derived.Shelf.Strconv.Clone
import Derived.Shelf.Strconv.SyntaxError
import Derived.Shelf.LaysC
import Derived.Shelf.Strconv.ToError
import Derived.Shelf.Strconv.Lower
import Derived.Shelf.Strconv.ParseUint10
import Derived.Shelf.Strconv.ParseUint10Empty
import Derived.Shelf.Strconv.ParseUint10Any
import Derived.Shelf.Strconv.ParseInt10
import Derived.Shelf.Strconv.AtoiLong
import Derived.Shelf.Strconv.AtoiInnerAll
import Derived.Shelf.Strconv.RangeError
import Derived.Shelf.Strconv.ToErrorRange
import Derived.Shelf.Strconv.AtoiAll
import Derived.Shelf.Strconv.ErrVarAll
import Derived.Shelf.Strings.Search1
import Derived.Shelf.Strings.Search2
import Derived.Shelf.Strings.Cut
import Derived.Shelf.Strings.Shaped
import Derived.Shelf.Strings.Prefix
import Derived.Shelf.Unicode.Decode
import Derived.Shelf.Strings.Runes
import Derived.Shelf.Strings.AsciiSet
import Derived.Shelf.Unicode.DecodeSlow
import Derived.Shelf.Unicode.DecodeAny
import Derived.Shelf.Unicode.DecodeLast
import Derived.Test.YtfcffheboncmbaaGreatDoorProg
namespace Go.Proofs
open Go.Shelf
def Tryz.lays169_ren : Go.Shelf.Ren := ⟨fun | 169 => 221 | n => n, fun | 70 => 269 | 9 => 9 | 0 => 0 | 72 => 271 | 37 => 186 | 127 => 283 | 3 => 3 | 5 => 5 | n => n, fun | n => n⟩
theorem Tryz.lays169 : Go.Proofs.Lays.n169 Tryz.prog Tryz.lays169_ren := {
  mixed := by kernel_rfl
  f169 := Tryz.func221.trans (congrArg some (by kernel_rfl))
  t0 := Tryz.underlying0
  a0 := Tryz.isAgg0
  z0 := Tryz.sizeOf0
  v0 := Tryz.zeroValue0
  t3 := Tryz.underlying3
  a3 := Tryz.isAgg3
  z3 := Tryz.sizeOf3
  v3 := Tryz.zeroValue3
  t9 := Tryz.underlying9
  a9 := Tryz.isAgg9
  z9 := Tryz.sizeOf9
  v9 := Tryz.zeroValue9
  t37 := Tryz.underlying186
  a37 := Tryz.isAgg186
  z37 := Tryz.sizeOf186
  v37 := Tryz.zeroValue186
  t70 := Tryz.underlying269
  a70 := Tryz.isAgg269
  z70 := Tryz.sizeOf269
  v70 := Tryz.zeroValue269
  t72 := Tryz.underlying271
  a72 := Tryz.isAgg271
  z72 := Tryz.sizeOf271
  v72 := Tryz.zeroValue271
  t127 := Tryz.underlying283
  a127 := Tryz.isAgg283
  z127 := Tryz.sizeOf283
  v127 := Tryz.zeroValue283 }
theorem Tryz.Builder_Extra_169 : Builder.Extra Tryz.prog Tryz.lays169_ren := {
  sizeBuilder := by kernel_rfl
  liesBuilder := by kernel_rfl
  t5 := Tryz.underlying5
  a5 := Tryz.isAgg5
  z5 := Tryz.sizeOf5
  v5 := Tryz.zeroValue5
  infoByte := by kernel_rfl
  cellsByte := by kernel_rfl
  sizeByte := by kernel_rfl
  neB5 := by decide }
open Go.RowKit in
theorem Tryz.Builder_String_any (B b : Nat) (l : List UInt8) (w : World) (h : Lib.IsBuilder 271 5 B b (Lib.byteCells l) w) (hBw : B ≤ w.heap.size) :
    Calls Tryz.prog 221 #[.pointer (some ⟨b, 0, none⟩)] w fun e w' => e = .returned (.string ⟨l.toArray⟩) ∧ Below B w w' := Any.Builder_String_any Tryz.lays169 Tryz.Builder_Extra_169 B b l w h hBw
def Tryz.lays160_ren : Go.Shelf.Ren := ⟨fun | 160 => 176 | 232 => 204 | 231 => 203 | 227 => 205 | 234 => 207 | 233 => 206 | 236 => 209 | 235 => 208 | 228 => 230 | 271 => 233 | 151 => 232 | 197 => 231 | 120 => 249 | 152 => 248 | 260 => 247 | 137 => 257 | 119 => 258 | 224 => 224 | 225 => 223 | 217 => 222 | 266 => 240 | n => n, fun | 9 => 9 | 4 => 4 | 3 => 3 | 5 => 5 | 117 => 255 | 116 => 254 | 0 => 0 | 124 => 258 | 21 => 21 | 105 => 278 | 46 => 230 | 119 => 302 | 139 => 305 | 138 => 304 | n => n, fun | 3 => 4 | 4 => 5 | n => n⟩
theorem Tryz.lays160 : Go.Proofs.Lays.n160 Tryz.prog Tryz.lays160_ren := {
  mixed := by kernel_rfl
  f119 := Tryz.func258.trans (congrArg some (by kernel_rfl))
  f120 := Tryz.func249.trans (congrArg some (by kernel_rfl))
  f137 := Tryz.func257.trans (congrArg some (by kernel_rfl))
  f151 := Tryz.func232.trans (congrArg some (by kernel_rfl))
  f152 := Tryz.func248.trans (congrArg some (by kernel_rfl))
  f160 := Tryz.func176.trans (congrArg some (by kernel_rfl))
  f197 := Tryz.func231.trans (congrArg some (by kernel_rfl))
  f217 := Tryz.func222.trans (congrArg some (by kernel_rfl))
  f224 := Tryz.func224.trans (congrArg some (by kernel_rfl))
  f225 := Tryz.func223.trans (congrArg some (by kernel_rfl))
  f227 := Tryz.func205.trans (congrArg some (by kernel_rfl))
  f228 := Tryz.func230.trans (congrArg some (by kernel_rfl))
  f231 := Tryz.func203.trans (congrArg some (by kernel_rfl))
  f232 := Tryz.func204.trans (congrArg some (by kernel_rfl))
  f233 := Tryz.func206.trans (congrArg some (by kernel_rfl))
  f234 := Tryz.func207.trans (congrArg some (by kernel_rfl))
  f235 := Tryz.func208.trans (congrArg some (by kernel_rfl))
  f236 := Tryz.func209.trans (congrArg some (by kernel_rfl))
  f260 := Tryz.func247.trans (congrArg some (by kernel_rfl))
  f266 := Tryz.func240.trans (congrArg some (by kernel_rfl))
  f271 := Tryz.func233.trans (congrArg some (by kernel_rfl))
  t0 := Tryz.underlying0
  a0 := Tryz.isAgg0
  z0 := Tryz.sizeOf0
  v0 := Tryz.zeroValue0
  t3 := Tryz.underlying3
  a3 := Tryz.isAgg3
  z3 := Tryz.sizeOf3
  v3 := Tryz.zeroValue3
  t4 := Tryz.underlying4
  a4 := Tryz.isAgg4
  z4 := Tryz.sizeOf4
  v4 := Tryz.zeroValue4
  t5 := Tryz.underlying5
  a5 := Tryz.isAgg5
  z5 := Tryz.sizeOf5
  v5 := Tryz.zeroValue5
  t9 := Tryz.underlying9
  a9 := Tryz.isAgg9
  z9 := Tryz.sizeOf9
  v9 := Tryz.zeroValue9
  t21 := Tryz.underlying21
  a21 := Tryz.isAgg21
  z21 := Tryz.sizeOf21
  v21 := Tryz.zeroValue21
  t46 := Tryz.underlying230
  a46 := Tryz.isAgg230
  z46 := Tryz.sizeOf230
  v46 := Tryz.zeroValue230
  t105 := Tryz.underlying278
  a105 := Tryz.isAgg278
  z105 := Tryz.sizeOf278
  v105 := Tryz.zeroValue278
  t116 := Tryz.underlying254
  a116 := Tryz.isAgg254
  z116 := Tryz.sizeOf254
  t117 := Tryz.underlying255
  a117 := Tryz.isAgg255
  z117 := Tryz.sizeOf255
  v117 := Tryz.zeroValue255
  t119 := Tryz.underlying302
  a119 := Tryz.isAgg302
  z119 := Tryz.sizeOf302
  t124 := Tryz.underlying258
  a124 := Tryz.isAgg258
  z124 := Tryz.sizeOf258
  v124 := Tryz.zeroValue258
  t138 := Tryz.underlying304
  a138 := Tryz.isAgg304
  z138 := Tryz.sizeOf304
  v138 := Tryz.zeroValue304
  t139 := Tryz.underlying305
  a139 := Tryz.isAgg305
  z139 := Tryz.sizeOf305
  v139 := Tryz.zeroValue305
  g3 := by kernel_rfl
  g4 := by kernel_rfl }
def Tryz.lays106_ren : Go.Shelf.Ren := ⟨fun | 106 => 171 | 213 => 200 | 265 => 228 | n => n, fun | 9 => 9 | 3 => 3 | n => n, fun | n => n⟩
theorem Tryz.lays106 : Go.Proofs.Lays.n106 Tryz.prog Tryz.lays106_ren := {
  mixed := by kernel_rfl
  f106 := Tryz.func171.trans (congrArg some (by kernel_rfl))
  f213 := Tryz.func200.trans (congrArg some (by kernel_rfl))
  f265 := Tryz.func228.trans (congrArg some (by kernel_rfl))
  t3 := Tryz.underlying3
  a3 := Tryz.isAgg3
  z3 := Tryz.sizeOf3
  v3 := Tryz.zeroValue3
  t9 := Tryz.underlying9
  a9 := Tryz.isAgg9
  z9 := Tryz.sizeOf9
  v9 := Tryz.zeroValue9 }
open Go.RowKit in
theorem Tryz.strings_Compare (a b : ByteArray) (w : World) :
    Calls Tryz.prog 171 #[.string a, .string b] w fun e w' => e = .returned (.int .i64 (Lib.compareBytes a.data.toList b.data.toList)) ∧ w' = w := Any.strings_Compare Tryz.lays106 a b w
def Tryz.laysM171_ren : Go.Shelf.Ren := ⟨fun | 171 => 216 | 243 => 237 | 246 => 252 | 283 => 259 | 284 => 260 | 285 => 261 | 286 => 262 | 129 => 266 | 317 => 265 | 318 => 267 | 319 => 268 | 320 => 269 | 337 => 270 | 338 => 271 | n => n, fun | 3 => 3 | 9 => 9 | 2 => 2 | 4 => 4 | 171 => 307 | 0 => 0 | 53 => 262 | 37 => 186 | 5 => 5 | 173 => 310 | 212 => 318 | 51 => 259 | 20 => 20 | 213 => 319 | 46 => 230 | 232 => 322 | 233 => 323 | n => n, fun | 17 => 6 | 18 => 7 | 19 => 8 | n => n⟩
theorem Tryz.laysM171 : Go.Proofs.LaysM.n171 Tryz.prog Tryz.laysM171_ren := {
  mixed := by kernel_rfl
  f129 := Tryz.func266.trans (congrArg some (by kernel_rfl))
  f171 := Tryz.func216.trans (congrArg some (by kernel_rfl))
  f243 := Tryz.func237.trans (congrArg some (by kernel_rfl))
  f246 := Tryz.func252.trans (congrArg some (by kernel_rfl))
  f283 := Tryz.func259.trans (congrArg some (by kernel_rfl))
  f284 := Tryz.func260.trans (congrArg some (by kernel_rfl))
  f285 := Tryz.func261.trans (congrArg some (by kernel_rfl))
  f286 := Tryz.func262.trans (congrArg some (by kernel_rfl))
  f317 := Tryz.func265.trans (congrArg some (by kernel_rfl))
  f318 := Tryz.func267.trans (congrArg some (by kernel_rfl))
  f319 := Tryz.func268.trans (congrArg some (by kernel_rfl))
  f320 := Tryz.func269.trans (congrArg some (by kernel_rfl))
  f337 := Tryz.func270.trans (congrArg some (by kernel_rfl))
  f338 := Tryz.func271.trans (congrArg some (by kernel_rfl))
  t0 := Tryz.underlying0
  a0 := Tryz.isAgg0
  z0 := Tryz.sizeOf0
  v0 := Tryz.zeroValue0
  t2 := Tryz.underlying2
  a2 := Tryz.isAgg2
  z2 := Tryz.sizeOf2
  v2 := Tryz.zeroValue2
  t3 := Tryz.underlying3
  a3 := Tryz.isAgg3
  z3 := Tryz.sizeOf3
  v3 := Tryz.zeroValue3
  t4 := Tryz.underlying4
  a4 := Tryz.isAgg4
  z4 := Tryz.sizeOf4
  v4 := Tryz.zeroValue4
  t5 := Tryz.underlying5
  a5 := Tryz.isAgg5
  z5 := Tryz.sizeOf5
  v5 := Tryz.zeroValue5
  t9 := Tryz.underlying9
  a9 := Tryz.isAgg9
  z9 := Tryz.sizeOf9
  v9 := Tryz.zeroValue9
  t20 := Tryz.underlying20
  a20 := Tryz.isAgg20
  z20 := Tryz.sizeOf20
  v20 := Tryz.zeroValue20
  t37 := Tryz.underlying186
  a37 := Tryz.isAgg186
  z37 := Tryz.sizeOf186
  v37 := Tryz.zeroValue186
  t46 := Tryz.underlying230
  a46 := Tryz.isAgg230
  z46 := Tryz.sizeOf230
  v46 := Tryz.zeroValue230
  t51 := Tryz.underlying259
  a51 := Tryz.isAgg259
  z51 := Tryz.sizeOf259
  v51 := Tryz.zeroValue259
  t53 := Tryz.underlying262
  a53 := Tryz.isAgg262
  z53 := Tryz.sizeOf262
  v53 := Tryz.zeroValue262
  t171 := Tryz.underlying307
  a171 := Tryz.isAgg307
  z171 := Tryz.sizeOf307
  v171 := Tryz.zeroValue307
  t173 := Tryz.underlying310
  a173 := Tryz.isAgg310
  z173 := Tryz.sizeOf310
  v173 := Tryz.zeroValue310
  t212 := Tryz.underlying318
  a212 := Tryz.isAgg318
  z212 := Tryz.sizeOf318
  v212 := Tryz.zeroValue318
  t213 := Tryz.underlying319
  a213 := Tryz.isAgg319
  z213 := Tryz.sizeOf319
  t232 := Tryz.underlying322
  a232 := Tryz.isAgg322
  z232 := Tryz.sizeOf322
  v232 := Tryz.zeroValue322
  t233 := Tryz.underlying323
  a233 := Tryz.isAgg323
  z233 := Tryz.sizeOf323
  v233 := Tryz.zeroValue323
  g17 := by kernel_rfl
  g18 := by kernel_rfl
  g19 := by kernel_rfl
  i0 := by kernel_rfl
  i2 := by kernel_rfl
  i3 := by kernel_rfl
  i4 := by kernel_rfl
  i5 := by kernel_rfl
  i9 := by kernel_rfl
  i20 := by kernel_rfl
  i37 := by kernel_rfl
  i46 := by kernel_rfl
  i51 := by kernel_rfl
  i53 := by kernel_rfl
  i171 := by kernel_rfl
  i173 := by kernel_rfl
  i212 := by kernel_rfl
  i232 := by kernel_rfl
  i233 := by kernel_rfl
  m17 := by kernel_rfl
  m18 := by kernel_rfl
  m19 := by kernel_rfl }
open Go.RowKit Go.Sort Go.Lib in
theorem Tryz.strconv_Itoa (n : Int) (h0 : -9223372036854775808 ≤ n) (h1 : n ≤ 9223372036854775807) (w : World) (htab : Lib.TabIs Tryz.prog w "internal/strconv.uint64pow10" .u64 Lib.pow10Tab) :
    Calls Tryz.prog 216 #[.int .i64 n] w fun e w' => e = .returned (.string ⟨(Lib.itoa n).toArray⟩) ∧ ∃ k os, w' = grow (w.drewN k) os := Any.strconv_Itoa Tryz.laysM171 n h0 h1 w htab
def Tryz.laysC172_ren : Go.Shelf.Ren := ⟨fun | 172 => 197 | 244 => 226 | 245 => 227 | 247 => 242 | 279 => 243 | 280 => 244 | 281 => 245 | 282 => 246 | 287 => 254 | 316 => 255 | 171 => 216 | 205 => 256 | 321 => 263 | 322 => 264 | 243 => 237 | 246 => 252 | 283 => 259 | 284 => 260 | 285 => 261 | 286 => 262 | 129 => 266 | 317 => 265 | 318 => 267 | 319 => 268 | 320 => 269 | 337 => 270 | 338 => 271 | n => n, fun | 9 => 9 | 3 => 3 | 75 => 246 | 76 => 247 | 4 => 4 | 5 => 5 | 167 => 285 | 37 => 186 | 0 => 0 | 85 => 286 | 2 => 2 | 168 => 288 | 53 => 262 | 175 => 297 | 46 => 230 | 210 => 300 | 127 => 283 | 145 => 316 | 143 => 314 | 21 => 21 | 171 => 307 | 173 => 310 | 212 => 318 | 51 => 259 | 20 => 20 | 213 => 319 | 232 => 322 | 233 => 323 | 80 => 273 | n => n, fun | 15 => 2 | 16 => 3 | 17 => 6 | 18 => 7 | 19 => 8 | n => n⟩
theorem Tryz.laysC172 : Go.Proofs.LaysC.n172 Tryz.prog Tryz.laysC172_ren := {
  mixed := by kernel_rfl
  f129 := Tryz.func266.trans (congrArg some (by kernel_rfl))
  f171 := Tryz.func216.trans (congrArg some (by kernel_rfl))
  f172 := Tryz.func197.trans (congrArg some (by kernel_rfl))
  f205 := Tryz.func256.trans (congrArg some (by kernel_rfl))
  f243 := Tryz.func237.trans (congrArg some (by kernel_rfl))
  f244 := Tryz.func226.trans (congrArg some (by kernel_rfl))
  f245 := Tryz.func227.trans (congrArg some (by kernel_rfl))
  f246 := Tryz.func252.trans (congrArg some (by kernel_rfl))
  f247 := Tryz.func242.trans (congrArg some (by kernel_rfl))
  f279 := Tryz.func243.trans (congrArg some (by kernel_rfl))
  f280 := Tryz.func244.trans (congrArg some (by kernel_rfl))
  f281 := Tryz.func245.trans (congrArg some (by kernel_rfl))
  f282 := Tryz.func246.trans (congrArg some (by kernel_rfl))
  f283 := Tryz.func259.trans (congrArg some (by kernel_rfl))
  f284 := Tryz.func260.trans (congrArg some (by kernel_rfl))
  f285 := Tryz.func261.trans (congrArg some (by kernel_rfl))
  f286 := Tryz.func262.trans (congrArg some (by kernel_rfl))
  f287 := Tryz.func254.trans (congrArg some (by kernel_rfl))
  f316 := Tryz.func255.trans (congrArg some (by kernel_rfl))
  f317 := Tryz.func265.trans (congrArg some (by kernel_rfl))
  f318 := Tryz.func267.trans (congrArg some (by kernel_rfl))
  f319 := Tryz.func268.trans (congrArg some (by kernel_rfl))
  f320 := Tryz.func269.trans (congrArg some (by kernel_rfl))
  f321 := Tryz.func263.trans (congrArg some (by kernel_rfl))
  f322 := Tryz.func264.trans (congrArg some (by kernel_rfl))
  f337 := Tryz.func270.trans (congrArg some (by kernel_rfl))
  f338 := Tryz.func271.trans (congrArg some (by kernel_rfl))
  t0 := Tryz.underlying0
  a0 := Tryz.isAgg0
  z0 := Tryz.sizeOf0
  v0 := Tryz.zeroValue0
  t2 := Tryz.underlying2
  a2 := Tryz.isAgg2
  z2 := Tryz.sizeOf2
  v2 := Tryz.zeroValue2
  t3 := Tryz.underlying3
  a3 := Tryz.isAgg3
  z3 := Tryz.sizeOf3
  v3 := Tryz.zeroValue3
  t4 := Tryz.underlying4
  a4 := Tryz.isAgg4
  z4 := Tryz.sizeOf4
  v4 := Tryz.zeroValue4
  t5 := Tryz.underlying5
  a5 := Tryz.isAgg5
  z5 := Tryz.sizeOf5
  v5 := Tryz.zeroValue5
  t9 := Tryz.underlying9
  a9 := Tryz.isAgg9
  z9 := Tryz.sizeOf9
  v9 := Tryz.zeroValue9
  t20 := Tryz.underlying20
  a20 := Tryz.isAgg20
  z20 := Tryz.sizeOf20
  v20 := Tryz.zeroValue20
  t21 := Tryz.underlying21
  a21 := Tryz.isAgg21
  z21 := Tryz.sizeOf21
  v21 := Tryz.zeroValue21
  t37 := Tryz.underlying186
  a37 := Tryz.isAgg186
  z37 := Tryz.sizeOf186
  v37 := Tryz.zeroValue186
  t46 := Tryz.underlying230
  a46 := Tryz.isAgg230
  z46 := Tryz.sizeOf230
  v46 := Tryz.zeroValue230
  t51 := Tryz.underlying259
  a51 := Tryz.isAgg259
  z51 := Tryz.sizeOf259
  v51 := Tryz.zeroValue259
  t53 := Tryz.underlying262
  a53 := Tryz.isAgg262
  z53 := Tryz.sizeOf262
  v53 := Tryz.zeroValue262
  t75 := Tryz.underlying246
  a75 := Tryz.isAgg246
  z75 := Tryz.sizeOf246
  v75 := Tryz.zeroValue246
  t76 := Tryz.underlying247
  a76 := Tryz.isAgg247
  z76 := Tryz.sizeOf247
  v76 := Tryz.zeroValue247
  t85 := Tryz.underlying286
  a85 := Tryz.isAgg286
  z85 := Tryz.sizeOf286
  v85 := Tryz.zeroValue286
  t127 := Tryz.underlying283
  a127 := Tryz.isAgg283
  z127 := Tryz.sizeOf283
  v127 := Tryz.zeroValue283
  t143 := Tryz.underlying314
  a143 := Tryz.isAgg314
  z143 := Tryz.sizeOf314
  v143 := Tryz.zeroValue314
  t145 := Tryz.underlying316
  a145 := Tryz.isAgg316
  z145 := Tryz.sizeOf316
  v145 := Tryz.zeroValue316
  t167 := Tryz.underlying285
  a167 := Tryz.isAgg285
  z167 := Tryz.sizeOf285
  v167 := Tryz.zeroValue285
  t168 := Tryz.underlying288
  a168 := Tryz.isAgg288
  z168 := Tryz.sizeOf288
  v168 := Tryz.zeroValue288
  t171 := Tryz.underlying307
  a171 := Tryz.isAgg307
  z171 := Tryz.sizeOf307
  v171 := Tryz.zeroValue307
  t173 := Tryz.underlying310
  a173 := Tryz.isAgg310
  z173 := Tryz.sizeOf310
  v173 := Tryz.zeroValue310
  t175 := Tryz.underlying297
  a175 := Tryz.isAgg297
  z175 := Tryz.sizeOf297
  v175 := Tryz.zeroValue297
  t210 := Tryz.underlying300
  a210 := Tryz.isAgg300
  z210 := Tryz.sizeOf300
  v210 := Tryz.zeroValue300
  t212 := Tryz.underlying318
  a212 := Tryz.isAgg318
  z212 := Tryz.sizeOf318
  v212 := Tryz.zeroValue318
  t213 := Tryz.underlying319
  a213 := Tryz.isAgg319
  z213 := Tryz.sizeOf319
  t232 := Tryz.underlying322
  a232 := Tryz.isAgg322
  z232 := Tryz.sizeOf322
  v232 := Tryz.zeroValue322
  t233 := Tryz.underlying323
  a233 := Tryz.isAgg323
  z233 := Tryz.sizeOf323
  v233 := Tryz.zeroValue323
  g15 := by kernel_rfl
  g16 := by kernel_rfl
  g17 := by kernel_rfl
  g18 := by kernel_rfl
  g19 := by kernel_rfl
  t80 := Tryz.underlying273
  a80 := Tryz.isAgg273
  z80 := Tryz.sizeOf273
  v80 := Tryz.zeroValue273
  i0 := by kernel_rfl
  i2 := by kernel_rfl
  i3 := by kernel_rfl
  i4 := by kernel_rfl
  i5 := by kernel_rfl
  i9 := by kernel_rfl
  i20 := by kernel_rfl
  i21 := by kernel_rfl
  i37 := by kernel_rfl
  i46 := by kernel_rfl
  i51 := by kernel_rfl
  i53 := by kernel_rfl
  i75 := by kernel_rfl
  i76 := by kernel_rfl
  i80 := by kernel_rfl
  i85 := by kernel_rfl
  i127 := by kernel_rfl
  i143 := by kernel_rfl
  i145 := by kernel_rfl
  i167 := by kernel_rfl
  i168 := by kernel_rfl
  i171 := by kernel_rfl
  i173 := by kernel_rfl
  i175 := by kernel_rfl
  i210 := by kernel_rfl
  i212 := by kernel_rfl
  i232 := by kernel_rfl
  i233 := by kernel_rfl
  m15 := by kernel_rfl
  m16 := by kernel_rfl
  m17 := by kernel_rfl
  m18 := by kernel_rfl
  m19 := by kernel_rfl
  c0 := by kernel_rfl
  c2 := by kernel_rfl
  c3 := by kernel_rfl
  c4 := by kernel_rfl
  c5 := by kernel_rfl
  c9 := by kernel_rfl
  c20 := by kernel_rfl
  c21 := by kernel_rfl
  c37 := by kernel_rfl
  c46 := by kernel_rfl
  c51 := by kernel_rfl
  c53 := by kernel_rfl
  c75 := by kernel_rfl
  c76 := by kernel_rfl
  c80 := by kernel_rfl
  c85 := by kernel_rfl
  c127 := by kernel_rfl
  c143 := by kernel_rfl
  c145 := by kernel_rfl
  c167 := by kernel_rfl
  c168 := by kernel_rfl
  c171 := by kernel_rfl
  c173 := by kernel_rfl
  c175 := by kernel_rfl
  c210 := by kernel_rfl
  c212 := by kernel_rfl
  c213 := by kernel_rfl
  c232 := by kernel_rfl
  c233 := by kernel_rfl }
open Go.RowKit in
theorem Tryz.strconv_Atoi_ok (s : ByteArray) (hmax : s.size ≤ 9223372036854775806) (v : Int) (h : Lib.atoiAll s.data.toList = .ok v) (w : World) :
    Calls Tryz.prog 197 #[.string s] w fun e w' => e = .returned (.tuple #[.int .i64 v, .nilIface]) ∧ (w' = w ∨ ∃ t, w' = Lib.bytesWorld w 5 t) := Any.strconv_Atoi_ok Tryz.laysC172 s hmax v h w
def Tryz.lays145_ren : Go.Shelf.Ren := ⟨fun | 145 => 126 | 220 => 165 | 219 => 196 | 217 => 222 | 225 => 223 | 224 => 224 | 267 => 225 | 266 => 240 | 314 => 241 | n => n, fun | 9 => 9 | 4 => 4 | 59 => 188 | 3 => 3 | 5 => 5 | 46 => 230 | 146 => 260 | 51 => 259 | n => n, fun | 1 => 1 | n => n⟩
theorem Tryz.lays145 : Go.Proofs.Lays.n145 Tryz.prog Tryz.lays145_ren := {
  mixed := by kernel_rfl
  f145 := Tryz.func126.trans (congrArg some (by kernel_rfl))
  f217 := Tryz.func222.trans (congrArg some (by kernel_rfl))
  f219 := Tryz.func196.trans (congrArg some (by kernel_rfl))
  f220 := Tryz.func165.trans (congrArg some (by kernel_rfl))
  f224 := Tryz.func224.trans (congrArg some (by kernel_rfl))
  f225 := Tryz.func223.trans (congrArg some (by kernel_rfl))
  f266 := Tryz.func240.trans (congrArg some (by kernel_rfl))
  f267 := Tryz.func225.trans (congrArg some (by kernel_rfl))
  f314 := Tryz.func241.trans (congrArg some (by kernel_rfl))
  t3 := Tryz.underlying3
  a3 := Tryz.isAgg3
  z3 := Tryz.sizeOf3
  v3 := Tryz.zeroValue3
  t4 := Tryz.underlying4
  a4 := Tryz.isAgg4
  z4 := Tryz.sizeOf4
  v4 := Tryz.zeroValue4
  t5 := Tryz.underlying5
  a5 := Tryz.isAgg5
  z5 := Tryz.sizeOf5
  v5 := Tryz.zeroValue5
  t9 := Tryz.underlying9
  a9 := Tryz.isAgg9
  z9 := Tryz.sizeOf9
  v9 := Tryz.zeroValue9
  t46 := Tryz.underlying230
  a46 := Tryz.isAgg230
  z46 := Tryz.sizeOf230
  v46 := Tryz.zeroValue230
  t51 := Tryz.underlying259
  a51 := Tryz.isAgg259
  z51 := Tryz.sizeOf259
  v51 := Tryz.zeroValue259
  t59 := Tryz.underlying188
  a59 := Tryz.isAgg188
  z59 := Tryz.sizeOf188
  v59 := Tryz.zeroValue188
  t146 := Tryz.underlying260
  a146 := Tryz.isAgg260
  z146 := Tryz.sizeOf260
  v146 := Tryz.zeroValue260
  g1 := by kernel_rfl }
open Go.RowKit Go.Lib in
theorem Tryz.strings_Cut (s sep : ByteArray) (m : Int) (w : World) (hs : s.size < 4294967281) (hm : w.cell? ⟨1, 0, none⟩ = some (.int .i64 m)) :
    Calls Tryz.prog 126 #[.string s, .string sep] w fun e w' => e = .returned (.tuple #[.string ⟨(Lib.cut s.data.toList sep.data.toList).1.toArray⟩, .string ⟨(Lib.cut s.data.toList sep.data.toList).2.1.toArray⟩, .bool (Lib.cut s.data.toList sep.data.toList).2.2]) ∧ ∃ n, w' = w.drewN n := Any.strings_Cut Tryz.lays145 s sep m w hs hm
def Tryz.lays99_ren : Go.Shelf.Ren := ⟨fun | 99 => 234 | 206 => 201 | n => n, fun | 9 => 9 | 4 => 4 | 3 => 3 | n => n, fun | n => n⟩
theorem Tryz.lays99 : Go.Proofs.Lays.n99 Tryz.prog Tryz.lays99_ren := {
  mixed := by kernel_rfl
  f99 := Tryz.func234.trans (congrArg some (by kernel_rfl))
  f206 := Tryz.func201.trans (congrArg some (by kernel_rfl))
  t3 := Tryz.underlying3
  a3 := Tryz.isAgg3
  z3 := Tryz.sizeOf3
  v3 := Tryz.zeroValue3
  t4 := Tryz.underlying4
  a4 := Tryz.isAgg4
  z4 := Tryz.sizeOf4
  v4 := Tryz.zeroValue4
  t9 := Tryz.underlying9
  a9 := Tryz.isAgg9
  z9 := Tryz.sizeOf9
  v9 := Tryz.zeroValue9 }
open Go.RowKit Go.Lib in
theorem Tryz.strings_HasPrefix (s p : ByteArray) (w : World) :
    Calls Tryz.prog 234 #[.string s, .string p] w fun e w' => e = .returned (.bool (Lib.hasPrefix s.data.toList p.data.toList)) ∧ w' = w := Any.strings_HasPrefix Tryz.lays99 s p w
def Tryz.lays101_ren : Go.Shelf.Ren := ⟨fun | 101 => 132 | 208 => 172 | 206 => 201 | n => n, fun | 9 => 9 | 4 => 4 | 3 => 3 | n => n, fun | n => n⟩
theorem Tryz.lays101 : Go.Proofs.Lays.n101 Tryz.prog Tryz.lays101_ren := {
  mixed := by kernel_rfl
  f101 := Tryz.func132.trans (congrArg some (by kernel_rfl))
  f206 := Tryz.func201.trans (congrArg some (by kernel_rfl))
  f208 := Tryz.func172.trans (congrArg some (by kernel_rfl))
  t3 := Tryz.underlying3
  a3 := Tryz.isAgg3
  z3 := Tryz.sizeOf3
  v3 := Tryz.zeroValue3
  t4 := Tryz.underlying4
  a4 := Tryz.isAgg4
  z4 := Tryz.sizeOf4
  v4 := Tryz.zeroValue4
  t9 := Tryz.underlying9
  a9 := Tryz.isAgg9
  z9 := Tryz.sizeOf9
  v9 := Tryz.zeroValue9 }
open Go.RowKit Go.Lib in
theorem Tryz.strings_TrimPrefix (s p : ByteArray) (w : World) :
    Calls Tryz.prog 132 #[.string s, .string p] w fun e w' => e = .returned (.string ⟨(Lib.trimPrefix s.data.toList p.data.toList).toArray⟩) ∧ w' = w := Any.strings_TrimPrefix Tryz.lays101 s p w
end Go.Proofs

