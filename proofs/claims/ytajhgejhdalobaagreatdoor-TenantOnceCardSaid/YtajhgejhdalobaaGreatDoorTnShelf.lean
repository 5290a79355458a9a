/-
  CONTRACTS OF THE LIBRARY, laid at this dump: printed by the kit (lay-shelf.mjs, lay-plain.mjs) for this seat.
-/
import Derived.Shelf.Strings.Builder1
import Derived.Shelf.Strings.Builder2
import Derived.Shelf.Strings.OnBuilder
import Derived.Shelf.Strings.Trim
import Derived.Shelf.Small.Utf8
import Derived.Shelf.Small.Bits
import Derived.Shelf.Small.Strs
import Derived.Shelf.Strings.BuilderF
import Derived.Shelf.Strings.BuilderK
import Derived.Shelf.Utf8.RuneCount
import Derived.Shelf.Strings.Builder2Cap
import Derived.Shelf.Strconv.Itoa0
import Derived.Shelf.Strconv.Itoa1
import Derived.Shelf.LaysM
import Derived.Shelf.Strconv.Itoa2
import Derived.Shelf.Strconv.Itoa3
import Derived.Shelf.Strings.Search1
import Derived.Shelf.Strings.Search2
import Derived.Shelf.Strings.Search3
import Derived.Shelf.Strings.Cut
import Derived.Shelf.Strings.Count
import Derived.Shelf.Strings.Shaped
import Derived.Shelf.Sort.Plain
import Derived.Shelf.Strings.Prefix
import Derived.Shelf.Strings.Split
import Derived.Shelf.Strings.SplitShaped
import Derived.Shelf.Unicode.Decode
import Derived.Shelf.Strings.Runes
import Derived.Shelf.Strings.RuneCount
import Derived.Shelf.Strings.AsciiSet
import Derived.Shelf.Strings.Explode
import Derived.Shelf.Bits.Mul64
import Derived.Shelf.Strings.Repeat
import Derived.Shelf.Unicode.DecodeSlow
import Derived.Shelf.Unicode.DecodeAny
import Derived.Shelf.Strings.BuilderCap
import Derived.Shelf.Slices.In.SortNone
import Derived.Ground.SlbCloneProg
import Derived.Shelf.Bytes.SlClone
import Derived.Ground.SlbNamesProg
import Derived.Shelf.Bytes.SlJoin
import Derived.Test.YtajhgejhdalobaaGreatDoorProg
namespace Go.Proofs
open Go.Shelf
def Tryz.lays156_ren : Go.Shelf.Ren := ⟨fun | 156 => 176 | 165 => 132 | 166 => 133 | 169 => 135 | 240 => 196 | 241 => 197 | 276 => 250 | 277 => 251 | n => n, fun | 31 => 235 | 9 => 9 | 3 => 3 | 4 => 4 | 0 => 0 | 20 => 20 | 72 => 225 | 76 => 229 | 70 => 223 | 37 => 34 | 75 => 228 | 127 => 288 | 164 => 330 | 5 => 5 | 80 => 177 | n => n, fun | n => n⟩
theorem Tryz.lays156 : Go.Proofs.Lays.n156 Tryz.prog Tryz.lays156_ren := {
  mixed := by kernel_rfl
  f156 := Tryz.func176.trans (congrArg some (by kernel_rfl))
  f165 := Tryz.func132.trans (congrArg some (by kernel_rfl))
  f166 := Tryz.func133.trans (congrArg some (by kernel_rfl))
  f169 := Tryz.func135.trans (congrArg some (by kernel_rfl))
  f240 := Tryz.func196.trans (congrArg some (by kernel_rfl))
  f241 := Tryz.func197.trans (congrArg some (by kernel_rfl))
  f276 := Tryz.func250.trans (congrArg some (by kernel_rfl))
  f277 := Tryz.func251.trans (congrArg some (by kernel_rfl))
  t0 := Tryz.underlying0
  a0 := Tryz.isAgg0
  z0 := Tryz.sizeOf0
  v0 := Tryz.zeroValue0
  t3 := Tryz.underlying3
  a3 := Tryz.isAgg3
  z3 := Tryz.sizeOf3
  v3 := Tryz.zeroValue3
  t4 := Tryz.underlying4
  a4 := Tryz.isAgg4
  z4 := Tryz.sizeOf4
  v4 := Tryz.zeroValue4
  t9 := Tryz.underlying9
  a9 := Tryz.isAgg9
  z9 := Tryz.sizeOf9
  v9 := Tryz.zeroValue9
  t20 := Tryz.underlying20
  a20 := Tryz.isAgg20
  z20 := Tryz.sizeOf20
  v20 := Tryz.zeroValue20
  t31 := Tryz.underlying235
  a31 := Tryz.isAgg235
  z31 := Tryz.sizeOf235
  v31 := Tryz.zeroValue235
  t37 := Tryz.underlying34
  a37 := Tryz.isAgg34
  z37 := Tryz.sizeOf34
  v37 := Tryz.zeroValue34
  t70 := Tryz.underlying223
  a70 := Tryz.isAgg223
  z70 := Tryz.sizeOf223
  v70 := Tryz.zeroValue223
  t72 := Tryz.underlying225
  a72 := Tryz.isAgg225
  z72 := Tryz.sizeOf225
  v72 := Tryz.zeroValue225
  t75 := Tryz.underlying228
  a75 := Tryz.isAgg228
  z75 := Tryz.sizeOf228
  v75 := Tryz.zeroValue228
  t76 := Tryz.underlying229
  a76 := Tryz.isAgg229
  z76 := Tryz.sizeOf229
  v76 := Tryz.zeroValue229
  t127 := Tryz.underlying288
  a127 := Tryz.isAgg288
  z127 := Tryz.sizeOf288
  v127 := Tryz.zeroValue288
  t164 := Tryz.underlying330
  a164 := Tryz.isAgg330
  z164 := Tryz.sizeOf330
  v164 := Tryz.zeroValue330 }
theorem Tryz.Builder_Extra_156 : Builder.Extra Tryz.prog Tryz.lays156_ren := {
  sizeBuilder := by kernel_rfl
  liesBuilder := by kernel_rfl
  t5 := Tryz.underlying5
  a5 := Tryz.isAgg5
  z5 := Tryz.sizeOf5
  v5 := Tryz.zeroValue5
  infoByte := by kernel_rfl
  cellsByte := by kernel_rfl
  sizeByte := by kernel_rfl
  neB5 := by decide }
open Go.RowKit in
theorem Tryz.strings_Join (bk o c : Nat) (xs : List ByteArray) (sep : ByteArray) (w : World) (hcells : ∀ (j : Nat) x, xs[j]? = some x → w.cell? ⟨bk, o + j, none⟩ = some (.string x)) (hbk : bk < w.heap.size) (hN : xs.length ≤ 140737488355328) (hcap : xs.length ≤ c) (hlen : (Lib.join (xs.map (·.data.toList)) sep.data.toList).length ≤ 140737488355328) :
    Calls Tryz.prog 176 #[.slice (some ⟨bk, o, none⟩) xs.length c, .string sep] w fun e w' => e = .returned (.string ⟨(Lib.join (xs.map (·.data.toList)) sep.data.toList).toArray⟩) ∧ Below w.heap.size w w' := Any.strings_Join Tryz.lays156 Tryz.Builder_Extra_156 bk o c xs sep w hcells hbk hN hcap hlen
def Tryz.lays161_ren : Go.Shelf.Ren := ⟨fun | 161 => 139 | 231 => 200 | 227 => 201 | 233 => 202 | 235 => 203 | 228 => 260 | 197 => 261 | 151 => 262 | 260 => 323 | 152 => 324 | 137 => 359 | 119 => 360 | 224 => 258 | 225 => 257 | 217 => 256 | 266 => 321 | n => n, fun | 9 => 9 | 4 => 4 | 3 => 3 | 5 => 5 | 117 => 294 | 116 => 293 | 0 => 0 | 124 => 297 | 105 => 339 | 21 => 21 | 119 => 390 | 46 => 219 | 139 => 411 | 138 => 410 | n => n, fun | 3 => 2 | 4 => 3 | n => n⟩
theorem Tryz.lays161 : Go.Proofs.Lays.n161 Tryz.prog Tryz.lays161_ren := {
  mixed := by kernel_rfl
  f119 := Tryz.func360.trans (congrArg some (by kernel_rfl))
  f137 := Tryz.func359.trans (congrArg some (by kernel_rfl))
  f151 := Tryz.func262.trans (congrArg some (by kernel_rfl))
  f152 := Tryz.func324.trans (congrArg some (by kernel_rfl))
  f161 := Tryz.func139.trans (congrArg some (by kernel_rfl))
  f197 := Tryz.func261.trans (congrArg some (by kernel_rfl))
  f217 := Tryz.func256.trans (congrArg some (by kernel_rfl))
  f224 := Tryz.func258.trans (congrArg some (by kernel_rfl))
  f225 := Tryz.func257.trans (congrArg some (by kernel_rfl))
  f227 := Tryz.func201.trans (congrArg some (by kernel_rfl))
  f228 := Tryz.func260.trans (congrArg some (by kernel_rfl))
  f231 := Tryz.func200.trans (congrArg some (by kernel_rfl))
  f233 := Tryz.func202.trans (congrArg some (by kernel_rfl))
  f235 := Tryz.func203.trans (congrArg some (by kernel_rfl))
  f260 := Tryz.func323.trans (congrArg some (by kernel_rfl))
  f266 := Tryz.func321.trans (congrArg some (by kernel_rfl))
  t0 := Tryz.underlying0
  a0 := Tryz.isAgg0
  z0 := Tryz.sizeOf0
  v0 := Tryz.zeroValue0
  t3 := Tryz.underlying3
  a3 := Tryz.isAgg3
  z3 := Tryz.sizeOf3
  v3 := Tryz.zeroValue3
  t4 := Tryz.underlying4
  a4 := Tryz.isAgg4
  z4 := Tryz.sizeOf4
  v4 := Tryz.zeroValue4
  t5 := Tryz.underlying5
  a5 := Tryz.isAgg5
  z5 := Tryz.sizeOf5
  v5 := Tryz.zeroValue5
  t9 := Tryz.underlying9
  a9 := Tryz.isAgg9
  z9 := Tryz.sizeOf9
  v9 := Tryz.zeroValue9
  t21 := Tryz.underlying21
  a21 := Tryz.isAgg21
  z21 := Tryz.sizeOf21
  v21 := Tryz.zeroValue21
  t46 := Tryz.underlying219
  a46 := Tryz.isAgg219
  z46 := Tryz.sizeOf219
  v46 := Tryz.zeroValue219
  t105 := Tryz.underlying339
  a105 := Tryz.isAgg339
  z105 := Tryz.sizeOf339
  v105 := Tryz.zeroValue339
  t116 := Tryz.underlying293
  a116 := Tryz.isAgg293
  z116 := Tryz.sizeOf293
  t117 := Tryz.underlying294
  a117 := Tryz.isAgg294
  z117 := Tryz.sizeOf294
  v117 := Tryz.zeroValue294
  t119 := Tryz.underlying390
  a119 := Tryz.isAgg390
  z119 := Tryz.sizeOf390
  t124 := Tryz.underlying297
  a124 := Tryz.isAgg297
  z124 := Tryz.sizeOf297
  v124 := Tryz.zeroValue297
  t138 := Tryz.underlying410
  a138 := Tryz.isAgg410
  z138 := Tryz.sizeOf410
  v138 := Tryz.zeroValue410
  t139 := Tryz.underlying411
  a139 := Tryz.isAgg411
  z139 := Tryz.sizeOf411
  v139 := Tryz.zeroValue411
  g3 := by kernel_rfl
  g4 := by kernel_rfl }
open Go.RowKit in
theorem Tryz.strings_TrimLeft_one (s : ByteArray) (c : UInt8) (hc : c.toNat < 128) (w : World) :
    Calls Tryz.prog 139 #[.string s, .string ⟨#[c]⟩] w fun e w' => e = .returned (.string ⟨(Lib.trimLeftB s.data.toList c).toArray⟩) ∧ w' = w := Any.strings_TrimLeft_one Tryz.lays161 s c hc w
def Tryz.lays125_ren : Go.Shelf.Ren := ⟨fun | 125 => 206 | 128 => 272 | 129 => 273 | n => n, fun | 46 => 219 | 3 => 3 | 51 => 194 | 53 => 232 | 4 => 4 | 5 => 5 | 9 => 9 | n => n, fun | n => n⟩
theorem Tryz.lays125 : Go.Proofs.Lays.n125 Tryz.prog Tryz.lays125_ren := {
  mixed := by kernel_rfl
  f125 := Tryz.func206.trans (congrArg some (by kernel_rfl))
  f128 := Tryz.func272.trans (congrArg some (by kernel_rfl))
  f129 := Tryz.func273.trans (congrArg some (by kernel_rfl))
  t3 := Tryz.underlying3
  a3 := Tryz.isAgg3
  z3 := Tryz.sizeOf3
  v3 := Tryz.zeroValue3
  t4 := Tryz.underlying4
  a4 := Tryz.isAgg4
  z4 := Tryz.sizeOf4
  v4 := Tryz.zeroValue4
  t5 := Tryz.underlying5
  a5 := Tryz.isAgg5
  z5 := Tryz.sizeOf5
  v5 := Tryz.zeroValue5
  t9 := Tryz.underlying9
  a9 := Tryz.isAgg9
  z9 := Tryz.sizeOf9
  v9 := Tryz.zeroValue9
  t46 := Tryz.underlying219
  a46 := Tryz.isAgg219
  z46 := Tryz.sizeOf219
  v46 := Tryz.zeroValue219
  t51 := Tryz.underlying194
  a51 := Tryz.isAgg194
  z51 := Tryz.sizeOf194
  v51 := Tryz.zeroValue194
  t53 := Tryz.underlying232
  a53 := Tryz.isAgg232
  z53 := Tryz.sizeOf232
  v53 := Tryz.zeroValue232 }
theorem Tryz.bits_Len (x : Int) (w : World) (h0 : 0 ≤ x) (h1 : x ≤ 18446744073709551615) :
    Calls Tryz.prog 206 #[.int .u64 x] w fun e w' => e = .returned (.int .i64 (Lib.bitLen x.toNat)) ∧ w' = w := Any.bits_Len Tryz.lays125 x w h0 h1
def Tryz.laysM171_ren : Go.Shelf.Ren := ⟨fun | 171 => 61 | 243 => 136 | 246 => 198 | 283 => 252 | 284 => 253 | 285 => 254 | 286 => 255 | 129 => 273 | 317 => 317 | 318 => 318 | 319 => 319 | 320 => 320 | 337 => 357 | 338 => 358 | n => n, fun | 3 => 3 | 9 => 9 | 2 => 2 | 4 => 4 | 171 => 332 | 0 => 0 | 53 => 232 | 37 => 34 | 5 => 5 | 173 => 335 | 212 => 381 | 51 => 194 | 20 => 20 | 213 => 382 | 46 => 219 | 232 => 445 | 233 => 403 | n => n, fun | 17 => 1 | 18 => 4 | 19 => 5 | n => n⟩
theorem Tryz.laysM171 : Go.Proofs.LaysM.n171 Tryz.prog Tryz.laysM171_ren := {
  mixed := by kernel_rfl
  f129 := Tryz.func273.trans (congrArg some (by kernel_rfl))
  f171 := Tryz.func61.trans (congrArg some (by kernel_rfl))
  f243 := Tryz.func136.trans (congrArg some (by kernel_rfl))
  f246 := Tryz.func198.trans (congrArg some (by kernel_rfl))
  f283 := Tryz.func252.trans (congrArg some (by kernel_rfl))
  f284 := Tryz.func253.trans (congrArg some (by kernel_rfl))
  f285 := Tryz.func254.trans (congrArg some (by kernel_rfl))
  f286 := Tryz.func255.trans (congrArg some (by kernel_rfl))
  f317 := Tryz.func317.trans (congrArg some (by kernel_rfl))
  f318 := Tryz.func318.trans (congrArg some (by kernel_rfl))
  f319 := Tryz.func319.trans (congrArg some (by kernel_rfl))
  f320 := Tryz.func320.trans (congrArg some (by kernel_rfl))
  f337 := Tryz.func357.trans (congrArg some (by kernel_rfl))
  f338 := Tryz.func358.trans (congrArg some (by kernel_rfl))
  t0 := Tryz.underlying0
  a0 := Tryz.isAgg0
  z0 := Tryz.sizeOf0
  v0 := Tryz.zeroValue0
  t2 := Tryz.underlying2
  a2 := Tryz.isAgg2
  z2 := Tryz.sizeOf2
  v2 := Tryz.zeroValue2
  t3 := Tryz.underlying3
  a3 := Tryz.isAgg3
  z3 := Tryz.sizeOf3
  v3 := Tryz.zeroValue3
  t4 := Tryz.underlying4
  a4 := Tryz.isAgg4
  z4 := Tryz.sizeOf4
  v4 := Tryz.zeroValue4
  t5 := Tryz.underlying5
  a5 := Tryz.isAgg5
  z5 := Tryz.sizeOf5
  v5 := Tryz.zeroValue5
  t9 := Tryz.underlying9
  a9 := Tryz.isAgg9
  z9 := Tryz.sizeOf9
  v9 := Tryz.zeroValue9
  t20 := Tryz.underlying20
  a20 := Tryz.isAgg20
  z20 := Tryz.sizeOf20
  v20 := Tryz.zeroValue20
  t37 := Tryz.underlying34
  a37 := Tryz.isAgg34
  z37 := Tryz.sizeOf34
  v37 := Tryz.zeroValue34
  t46 := Tryz.underlying219
  a46 := Tryz.isAgg219
  z46 := Tryz.sizeOf219
  v46 := Tryz.zeroValue219
  t51 := Tryz.underlying194
  a51 := Tryz.isAgg194
  z51 := Tryz.sizeOf194
  v51 := Tryz.zeroValue194
  t53 := Tryz.underlying232
  a53 := Tryz.isAgg232
  z53 := Tryz.sizeOf232
  v53 := Tryz.zeroValue232
  t171 := Tryz.underlying332
  a171 := Tryz.isAgg332
  z171 := Tryz.sizeOf332
  v171 := Tryz.zeroValue332
  t173 := Tryz.underlying335
  a173 := Tryz.isAgg335
  z173 := Tryz.sizeOf335
  v173 := Tryz.zeroValue335
  t212 := Tryz.underlying381
  a212 := Tryz.isAgg381
  z212 := Tryz.sizeOf381
  v212 := Tryz.zeroValue381
  t213 := Tryz.underlying382
  a213 := Tryz.isAgg382
  z213 := Tryz.sizeOf382
  t232 := Tryz.underlying445
  a232 := Tryz.isAgg445
  z232 := Tryz.sizeOf445
  v232 := Tryz.zeroValue445
  t233 := Tryz.underlying403
  a233 := Tryz.isAgg403
  z233 := Tryz.sizeOf403
  v233 := Tryz.zeroValue403
  g17 := by kernel_rfl
  g18 := by kernel_rfl
  g19 := by kernel_rfl
  i0 := by kernel_rfl
  i2 := by kernel_rfl
  i3 := by kernel_rfl
  i4 := by kernel_rfl
  i5 := by kernel_rfl
  i9 := by kernel_rfl
  i20 := by kernel_rfl
  i37 := by kernel_rfl
  i46 := by kernel_rfl
  i51 := by kernel_rfl
  i53 := by kernel_rfl
  i171 := by kernel_rfl
  i173 := by kernel_rfl
  i212 := by kernel_rfl
  i232 := by kernel_rfl
  i233 := by kernel_rfl
  m17 := by kernel_rfl
  m18 := by kernel_rfl
  m19 := by kernel_rfl }
open Go.RowKit Go.Sort Go.Lib in
theorem Tryz.strconv_Itoa (n : Int) (h0 : -9223372036854775808 ≤ n) (h1 : n ≤ 9223372036854775807) (w : World) (htab : Lib.TabIs Tryz.prog w "internal/strconv.uint64pow10" .u64 Lib.pow10Tab) :
    Calls Tryz.prog 61 #[.int .i64 n] w fun e w' => e = .returned (.string ⟨(Lib.itoa n).toArray⟩) ∧ ∃ k os, w' = grow (w.drewN k) os := Any.strconv_Itoa Tryz.laysM171 n h0 h1 w htab
def Tryz.lays171_ren : Go.Shelf.Ren := ⟨fun | 171 => 61 | 243 => 136 | 246 => 198 | 283 => 252 | 284 => 253 | 285 => 254 | 286 => 255 | 129 => 273 | 317 => 317 | 318 => 318 | 319 => 319 | 320 => 320 | 337 => 357 | 338 => 358 | n => n, fun | 3 => 3 | 9 => 9 | 2 => 2 | 4 => 4 | 171 => 332 | 0 => 0 | 53 => 232 | 37 => 34 | 5 => 5 | 173 => 335 | 212 => 381 | 51 => 194 | 20 => 20 | 213 => 382 | 46 => 219 | 232 => 445 | 233 => 403 | n => n, fun | 17 => 1 | 18 => 4 | 19 => 5 | n => n⟩
theorem Tryz.lays171 : Go.Proofs.Lays.n171 Tryz.prog Tryz.lays171_ren := {
  mixed := by kernel_rfl
  f129 := Tryz.func273.trans (congrArg some (by kernel_rfl))
  f171 := Tryz.func61.trans (congrArg some (by kernel_rfl))
  f243 := Tryz.func136.trans (congrArg some (by kernel_rfl))
  f246 := Tryz.func198.trans (congrArg some (by kernel_rfl))
  f283 := Tryz.func252.trans (congrArg some (by kernel_rfl))
  f284 := Tryz.func253.trans (congrArg some (by kernel_rfl))
  f285 := Tryz.func254.trans (congrArg some (by kernel_rfl))
  f286 := Tryz.func255.trans (congrArg some (by kernel_rfl))
  f317 := Tryz.func317.trans (congrArg some (by kernel_rfl))
  f318 := Tryz.func318.trans (congrArg some (by kernel_rfl))
  f319 := Tryz.func319.trans (congrArg some (by kernel_rfl))
  f320 := Tryz.func320.trans (congrArg some (by kernel_rfl))
  f337 := Tryz.func357.trans (congrArg some (by kernel_rfl))
  f338 := Tryz.func358.trans (congrArg some (by kernel_rfl))
  t0 := Tryz.underlying0
  a0 := Tryz.isAgg0
  z0 := Tryz.sizeOf0
  v0 := Tryz.zeroValue0
  t2 := Tryz.underlying2
  a2 := Tryz.isAgg2
  z2 := Tryz.sizeOf2
  v2 := Tryz.zeroValue2
  t3 := Tryz.underlying3
  a3 := Tryz.isAgg3
  z3 := Tryz.sizeOf3
  v3 := Tryz.zeroValue3
  t4 := Tryz.underlying4
  a4 := Tryz.isAgg4
  z4 := Tryz.sizeOf4
  v4 := Tryz.zeroValue4
  t5 := Tryz.underlying5
  a5 := Tryz.isAgg5
  z5 := Tryz.sizeOf5
  v5 := Tryz.zeroValue5
  t9 := Tryz.underlying9
  a9 := Tryz.isAgg9
  z9 := Tryz.sizeOf9
  v9 := Tryz.zeroValue9
  t20 := Tryz.underlying20
  a20 := Tryz.isAgg20
  z20 := Tryz.sizeOf20
  v20 := Tryz.zeroValue20
  t37 := Tryz.underlying34
  a37 := Tryz.isAgg34
  z37 := Tryz.sizeOf34
  v37 := Tryz.zeroValue34
  t46 := Tryz.underlying219
  a46 := Tryz.isAgg219
  z46 := Tryz.sizeOf219
  v46 := Tryz.zeroValue219
  t51 := Tryz.underlying194
  a51 := Tryz.isAgg194
  z51 := Tryz.sizeOf194
  v51 := Tryz.zeroValue194
  t53 := Tryz.underlying232
  a53 := Tryz.isAgg232
  z53 := Tryz.sizeOf232
  v53 := Tryz.zeroValue232
  t171 := Tryz.underlying332
  a171 := Tryz.isAgg332
  z171 := Tryz.sizeOf332
  v171 := Tryz.zeroValue332
  t173 := Tryz.underlying335
  a173 := Tryz.isAgg335
  z173 := Tryz.sizeOf335
  v173 := Tryz.zeroValue335
  t212 := Tryz.underlying381
  a212 := Tryz.isAgg381
  z212 := Tryz.sizeOf381
  v212 := Tryz.zeroValue381
  t213 := Tryz.underlying382
  a213 := Tryz.isAgg382
  z213 := Tryz.sizeOf382
  t232 := Tryz.underlying445
  a232 := Tryz.isAgg445
  z232 := Tryz.sizeOf445
  v232 := Tryz.zeroValue445
  t233 := Tryz.underlying403
  a233 := Tryz.isAgg403
  z233 := Tryz.sizeOf403
  v233 := Tryz.zeroValue403
  g17 := by kernel_rfl
  g18 := by kernel_rfl
  g19 := by kernel_rfl }
open Go.RowKit Go.Sort Go.Lib in
theorem Tryz.strconv_Itoa_small (i : Nat) (hi : i < 100) (w : World) :
    Calls Tryz.prog 61 #[.int .i64 i] w fun e w' => e = .returned (.string ⟨(Lib.decDigits i).toArray⟩) ∧ w' = w := Any.strconv_Itoa_small Tryz.lays171 i hi w
def Tryz.lays145_ren : Go.Shelf.Ren := ⟨fun | 145 => 62 | 220 => 137 | 219 => 199 | 217 => 256 | 225 => 257 | 224 => 258 | 267 => 259 | 266 => 321 | 314 => 322 | n => n, fun | 9 => 9 | 4 => 4 | 59 => 112 | 3 => 3 | 5 => 5 | 46 => 219 | 146 => 284 | 51 => 194 | n => n, fun | 1 => 0 | n => n⟩
theorem Tryz.lays145 : Go.Proofs.Lays.n145 Tryz.prog Tryz.lays145_ren := {
  mixed := by kernel_rfl
  f145 := Tryz.func62.trans (congrArg some (by kernel_rfl))
  f217 := Tryz.func256.trans (congrArg some (by kernel_rfl))
  f219 := Tryz.func199.trans (congrArg some (by kernel_rfl))
  f220 := Tryz.func137.trans (congrArg some (by kernel_rfl))
  f224 := Tryz.func258.trans (congrArg some (by kernel_rfl))
  f225 := Tryz.func257.trans (congrArg some (by kernel_rfl))
  f266 := Tryz.func321.trans (congrArg some (by kernel_rfl))
  f267 := Tryz.func259.trans (congrArg some (by kernel_rfl))
  f314 := Tryz.func322.trans (congrArg some (by kernel_rfl))
  t3 := Tryz.underlying3
  a3 := Tryz.isAgg3
  z3 := Tryz.sizeOf3
  v3 := Tryz.zeroValue3
  t4 := Tryz.underlying4
  a4 := Tryz.isAgg4
  z4 := Tryz.sizeOf4
  v4 := Tryz.zeroValue4
  t5 := Tryz.underlying5
  a5 := Tryz.isAgg5
  z5 := Tryz.sizeOf5
  v5 := Tryz.zeroValue5
  t9 := Tryz.underlying9
  a9 := Tryz.isAgg9
  z9 := Tryz.sizeOf9
  v9 := Tryz.zeroValue9
  t46 := Tryz.underlying219
  a46 := Tryz.isAgg219
  z46 := Tryz.sizeOf219
  v46 := Tryz.zeroValue219
  t51 := Tryz.underlying194
  a51 := Tryz.isAgg194
  z51 := Tryz.sizeOf194
  v51 := Tryz.zeroValue194
  t59 := Tryz.underlying112
  a59 := Tryz.isAgg112
  z59 := Tryz.sizeOf112
  v59 := Tryz.zeroValue112
  t146 := Tryz.underlying284
  a146 := Tryz.isAgg284
  z146 := Tryz.sizeOf284
  v146 := Tryz.zeroValue284
  g1 := by kernel_rfl }
open Go.RowKit Go.Lib in
theorem Tryz.strings_Cut (s sep : ByteArray) (m : Int) (w : World) (hs : s.size < 4294967281) (hm : w.cell? ⟨0, 0, none⟩ = some (.int .i64 m)) :
    Calls Tryz.prog 62 #[.string s, .string sep] w fun e w' => e = .returned (.tuple #[.string ⟨(Lib.cut s.data.toList sep.data.toList).1.toArray⟩, .string ⟨(Lib.cut s.data.toList sep.data.toList).2.1.toArray⟩, .bool (Lib.cut s.data.toList sep.data.toList).2.2]) ∧ ∃ n, w' = w.drewN n := Any.strings_Cut Tryz.lays145 s sep m w hs hm
def Tryz.lays190_ren : Go.Shelf.Ren := ⟨fun | 190 => 141 | 125 => 206 | 258 => 205 | 128 => 272 | 129 => 273 | 302 => 263 | 303 => 264 | 304 => 265 | 305 => 266 | 306 => 267 | 307 => 268 | 308 => 269 | 309 => 270 | 310 => 271 | 333 => 325 | 329 => 326 | 330 => 327 | 334 => 328 | 335 => 329 | 336 => 330 | 344 => 361 | n => n, fun | 31 => 235 | 9 => 9 | 3 => 3 | 46 => 219 | 0 => 0 | 51 => 194 | 53 => 232 | 4 => 4 | 183 => 344 | 182 => 343 | 131 => 171 | 5 => 5 | 218 => 385 | 222 => 133 | 228 => 412 | 229 => 413 | n => n, fun | n => n⟩
theorem Tryz.lays190 : Go.Proofs.Lays.n190 Tryz.prog Tryz.lays190_ren := {
  mixed := by kernel_rfl
  f125 := Tryz.func206.trans (congrArg some (by kernel_rfl))
  f128 := Tryz.func272.trans (congrArg some (by kernel_rfl))
  f129 := Tryz.func273.trans (congrArg some (by kernel_rfl))
  f190 := Tryz.func141.trans (congrArg some (by kernel_rfl))
  f258 := Tryz.func205.trans (congrArg some (by kernel_rfl))
  f302 := Tryz.func263.trans (congrArg some (by kernel_rfl))
  f303 := Tryz.func264.trans (congrArg some (by kernel_rfl))
  f304 := Tryz.func265.trans (congrArg some (by kernel_rfl))
  f305 := Tryz.func266.trans (congrArg some (by kernel_rfl))
  f306 := Tryz.func267.trans (congrArg some (by kernel_rfl))
  f307 := Tryz.func268.trans (congrArg some (by kernel_rfl))
  f308 := Tryz.func269.trans (congrArg some (by kernel_rfl))
  f309 := Tryz.func270.trans (congrArg some (by kernel_rfl))
  f310 := Tryz.func271.trans (congrArg some (by kernel_rfl))
  f329 := Tryz.func326.trans (congrArg some (by kernel_rfl))
  f330 := Tryz.func327.trans (congrArg some (by kernel_rfl))
  f333 := Tryz.func325.trans (congrArg some (by kernel_rfl))
  f334 := Tryz.func328.trans (congrArg some (by kernel_rfl))
  f335 := Tryz.func329.trans (congrArg some (by kernel_rfl))
  f336 := Tryz.func330.trans (congrArg some (by kernel_rfl))
  f344 := Tryz.func361.trans (congrArg some (by kernel_rfl))
  t0 := Tryz.underlying0
  a0 := Tryz.isAgg0
  z0 := Tryz.sizeOf0
  v0 := Tryz.zeroValue0
  t3 := Tryz.underlying3
  a3 := Tryz.isAgg3
  z3 := Tryz.sizeOf3
  v3 := Tryz.zeroValue3
  t4 := Tryz.underlying4
  a4 := Tryz.isAgg4
  z4 := Tryz.sizeOf4
  v4 := Tryz.zeroValue4
  t5 := Tryz.underlying5
  a5 := Tryz.isAgg5
  z5 := Tryz.sizeOf5
  v5 := Tryz.zeroValue5
  t9 := Tryz.underlying9
  a9 := Tryz.isAgg9
  z9 := Tryz.sizeOf9
  v9 := Tryz.zeroValue9
  t31 := Tryz.underlying235
  a31 := Tryz.isAgg235
  z31 := Tryz.sizeOf235
  v31 := Tryz.zeroValue235
  t46 := Tryz.underlying219
  a46 := Tryz.isAgg219
  z46 := Tryz.sizeOf219
  v46 := Tryz.zeroValue219
  t51 := Tryz.underlying194
  a51 := Tryz.isAgg194
  z51 := Tryz.sizeOf194
  v51 := Tryz.zeroValue194
  t53 := Tryz.underlying232
  a53 := Tryz.isAgg232
  z53 := Tryz.sizeOf232
  v53 := Tryz.zeroValue232
  t131 := Tryz.underlying171
  a131 := Tryz.isAgg171
  z131 := Tryz.sizeOf171
  v131 := Tryz.zeroValue171
  t182 := Tryz.underlying343
  a182 := Tryz.isAgg343
  z182 := Tryz.sizeOf343
  v182 := Tryz.zeroValue343
  t183 := Tryz.underlying344
  a183 := Tryz.isAgg344
  z183 := Tryz.sizeOf344
  v183 := Tryz.zeroValue344
  t218 := Tryz.underlying385
  a218 := Tryz.isAgg385
  z218 := Tryz.sizeOf385
  v218 := Tryz.zeroValue385
  t222 := Tryz.underlying133
  a222 := Tryz.isAgg133
  z222 := Tryz.sizeOf133
  v222 := Tryz.zeroValue133
  t228 := Tryz.underlying412
  a228 := Tryz.isAgg412
  z228 := Tryz.sizeOf412
  v228 := Tryz.zeroValue412
  t229 := Tryz.underlying413
  a229 := Tryz.isAgg413
  z229 := Tryz.sizeOf413
  v229 := Tryz.zeroValue413 }
open Go.Sort Go.RowKit in
theorem Tryz.slices_Sort_string (blk off cap : Nat) (ss : List (List UInt8)) (w : World) (hH : Holds encStr w blk off ss.toArray) (hblk : blk < w.heap.size) (hsz : ss.length < 4611686018427387904) :
    Calls Tryz.prog 141 #[.slice (some ⟨blk, off, none⟩) ss.length cap] w fun e w' =>
      e = .returned (.tuple #[]) ∧ ∃ n os, w' = grow (putRow encStr (Sort.ahead w n) blk off (ss.mergeSort fun x y => decide (x ≤ y)).toArray) os := Any.slices_Sort_string Tryz.lays190 blk off cap ss w hH hblk hsz
def Tryz.lays146_ren : Go.Shelf.Ren := ⟨fun | 146 => 177 | 221 => 241 | 268 => 307 | 138 => 308 | 143 => 309 | 195 => 345 | 197 => 261 | 218 => 346 | 219 => 199 | 260 => 323 | 217 => 256 | 225 => 257 | 224 => 258 | 267 => 259 | 266 => 321 | 314 => 322 | n => n, fun | 9 => 9 | 31 => 235 | 3 => 3 | 4 => 4 | 0 => 0 | 105 => 339 | 21 => 21 | 5 => 5 | 46 => 219 | 119 => 390 | 139 => 411 | 138 => 410 | 146 => 284 | 51 => 194 | n => n, fun | 1 => 0 | 3 => 2 | 4 => 3 | n => n⟩
theorem Tryz.lays146 : Go.Proofs.Lays.n146 Tryz.prog Tryz.lays146_ren := {
  mixed := by kernel_rfl
  f138 := Tryz.func308.trans (congrArg some (by kernel_rfl))
  f143 := Tryz.func309.trans (congrArg some (by kernel_rfl))
  f146 := Tryz.func177.trans (congrArg some (by kernel_rfl))
  f195 := Tryz.func345.trans (congrArg some (by kernel_rfl))
  f197 := Tryz.func261.trans (congrArg some (by kernel_rfl))
  f217 := Tryz.func256.trans (congrArg some (by kernel_rfl))
  f218 := Tryz.func346.trans (congrArg some (by kernel_rfl))
  f219 := Tryz.func199.trans (congrArg some (by kernel_rfl))
  f221 := Tryz.func241.trans (congrArg some (by kernel_rfl))
  f224 := Tryz.func258.trans (congrArg some (by kernel_rfl))
  f225 := Tryz.func257.trans (congrArg some (by kernel_rfl))
  f260 := Tryz.func323.trans (congrArg some (by kernel_rfl))
  f266 := Tryz.func321.trans (congrArg some (by kernel_rfl))
  f267 := Tryz.func259.trans (congrArg some (by kernel_rfl))
  f268 := Tryz.func307.trans (congrArg some (by kernel_rfl))
  f314 := Tryz.func322.trans (congrArg some (by kernel_rfl))
  t0 := Tryz.underlying0
  a0 := Tryz.isAgg0
  z0 := Tryz.sizeOf0
  v0 := Tryz.zeroValue0
  t3 := Tryz.underlying3
  a3 := Tryz.isAgg3
  z3 := Tryz.sizeOf3
  v3 := Tryz.zeroValue3
  t4 := Tryz.underlying4
  a4 := Tryz.isAgg4
  z4 := Tryz.sizeOf4
  v4 := Tryz.zeroValue4
  t5 := Tryz.underlying5
  a5 := Tryz.isAgg5
  z5 := Tryz.sizeOf5
  v5 := Tryz.zeroValue5
  t9 := Tryz.underlying9
  a9 := Tryz.isAgg9
  z9 := Tryz.sizeOf9
  v9 := Tryz.zeroValue9
  t21 := Tryz.underlying21
  a21 := Tryz.isAgg21
  z21 := Tryz.sizeOf21
  v21 := Tryz.zeroValue21
  t31 := Tryz.underlying235
  a31 := Tryz.isAgg235
  z31 := Tryz.sizeOf235
  v31 := Tryz.zeroValue235
  t46 := Tryz.underlying219
  a46 := Tryz.isAgg219
  z46 := Tryz.sizeOf219
  v46 := Tryz.zeroValue219
  t51 := Tryz.underlying194
  a51 := Tryz.isAgg194
  z51 := Tryz.sizeOf194
  v51 := Tryz.zeroValue194
  t105 := Tryz.underlying339
  a105 := Tryz.isAgg339
  z105 := Tryz.sizeOf339
  v105 := Tryz.zeroValue339
  t119 := Tryz.underlying390
  a119 := Tryz.isAgg390
  z119 := Tryz.sizeOf390
  t138 := Tryz.underlying410
  a138 := Tryz.isAgg410
  z138 := Tryz.sizeOf410
  v138 := Tryz.zeroValue410
  t139 := Tryz.underlying411
  a139 := Tryz.isAgg411
  z139 := Tryz.sizeOf411
  v139 := Tryz.zeroValue411
  t146 := Tryz.underlying284
  a146 := Tryz.isAgg284
  z146 := Tryz.sizeOf284
  v146 := Tryz.zeroValue284
  g1 := by kernel_rfl
  g3 := by kernel_rfl
  g4 := by kernel_rfl }
open Go.RowKit Go.Lib in
theorem Tryz.strings_Split (s sep : ByteArray) (m : Int) (w : World) (hs : s.size < 4294967281) (hm : w.cell? ⟨0, 0, none⟩ = some (.int .i64 m)) (h1 : 1 ≤ sep.size) :
    Calls Tryz.prog 177 #[.string s, .string sep] w fun e w' =>
      e = .returned (.slice (some ⟨w.heap.size, 0, none⟩) (Lib.countB s sep + 1) (Lib.countB s sep + 1)) ∧ w' = w.alloc (.cells ((Lib.splitB sep 0 (Lib.countB s sep) s).map Value.string).toArray 9) := Any.strings_Split Tryz.lays146 (by kernel_rfl) s sep m w hs hm h1
open Go.RowKit Go.Sort in
theorem Tryz.slices_Sort_string_none (p : Option Addr) (cap : Nat) (w : World) :
    Calls Tryz.prog 141 #[.slice p 0 cap] w fun e w' => e = .returned (.tuple #[]) ∧ w' = w := Any.slices_Sort_string_none Tryz.lays190 p cap w
def Tryz.laysSlJ14_ren : Go.Shelf.Ren := ⟨fun | 14 => 290 | 15 => 251 | n => n, fun | 26 => 73 | 22 => 34 | 3 => 3 | 4 => 4 | 0 => 0 | 9 => 9 | 20 => 20 | 5 => 5 | n => n, fun | n => n⟩
theorem Tryz.laysSlJ14 : Go.Proofs.SlLaysJ.n14 Tryz.prog Tryz.laysSlJ14_ren := {
  mixed := by kernel_rfl
  f14 := Tryz.func290.trans (congrArg some (by kernel_rfl))
  f15 := Tryz.func251.trans (congrArg some (by kernel_rfl))
  t0 := Tryz.underlying0
  a0 := Tryz.isAgg0
  z0 := Tryz.sizeOf0
  v0 := Tryz.zeroValue0
  t3 := Tryz.underlying3
  a3 := Tryz.isAgg3
  z3 := Tryz.sizeOf3
  v3 := Tryz.zeroValue3
  t4 := Tryz.underlying4
  a4 := Tryz.isAgg4
  z4 := Tryz.sizeOf4
  v4 := Tryz.zeroValue4
  t9 := Tryz.underlying9
  a9 := Tryz.isAgg9
  z9 := Tryz.sizeOf9
  v9 := Tryz.zeroValue9
  t20 := Tryz.underlying20
  a20 := Tryz.isAgg20
  z20 := Tryz.sizeOf20
  v20 := Tryz.zeroValue20
  t22 := Tryz.underlying34
  a22 := Tryz.isAgg34
  z22 := Tryz.sizeOf34
  v22 := Tryz.zeroValue34
  t26 := Tryz.underlying73
  a26 := Tryz.isAgg73
  z26 := Tryz.sizeOf73
  v26 := Tryz.zeroValue73
  t5 := Tryz.underlying5
  z5 := Tryz.sizeOf5
  i5 := by kernel_rfl }
open Go.RowKit Go.Lib in
theorem Tryz.bytes_Join_many (b o n c : Nat) (vs : List Value) (ls : List (List UInt8)) (sv : Value) (sep : List UInt8) (w : World) (hn : ls.length = n) (h2 : 2 ≤ n) (hP : Lib.PartsAt w ⟨b, o, none⟩ vs ls) (hcap : n ≤ c) (hS : Lib.HoldsBytes w sv sep) (hn47 : n ≤ 140737488355328) (hlen : Lib.lens ls + sep.length * (n - 1) ≤ 140737488355328) :
    Calls Tryz.prog 290 #[.slice (some ⟨b, o, none⟩) n c, sv] w fun e w' => ∃ v', e = .returned v' ∧ Lib.FreshBytes w.heap.size w' v' (Lib.join ls sep) ∧ Below w.heap.size w w' := Any.bytes_Join_many Tryz.laysSlJ14 b o n c vs ls sv sep w hn h2 hP hcap hS hn47 hlen
end Go.Proofs
