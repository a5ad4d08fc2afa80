/- Part of the proof: TryzShelfP, QR1, QT1, QT2, QT3, Sup, EnRound, EnForce, EnSet, EnSet2, HU1, HU2, SpPay, HU3. -/
import Derived.Shelf.Strings.Builder1
import Derived.Shelf.Strings.Builder2
import Derived.Shelf.Strings.OnBuilder
import Derived.Shelf.Small.Bits
import Derived.Shelf.Strings.BuilderF
import Derived.Shelf.Strings.BuilderK
import Derived.Shelf.Strconv.Atoi
import Derived.Shelf.Strconv.Itoa0
import Derived.Shelf.Strconv.Itoa1
import Derived.Shelf.LaysM
import Derived.Shelf.Strconv.Itoa2
import Derived.Shelf.Strconv.Itoa3
import Derived.Shelf.Strconv.AtoiErrFast
import Derived.Shelf.Strconv.ParseIntEmpty
import Derived.Shelf.Strconv.AtoiFail
import Derived.Shelf.Strconv.Clone
import Derived.Shelf.Strconv.SyntaxError
import Derived.Shelf.LaysC
import Derived.Shelf.Strconv.ToError
import Derived.Shelf.Strconv.Lower
import Derived.Shelf.Strconv.ParseUint10
import Derived.Shelf.Strconv.ParseUint10Empty
import Derived.Shelf.Strconv.ParseUint10Any
import Derived.Shelf.Strconv.ParseInt10
import Derived.Shelf.Strconv.AtoiLong
import Derived.Shelf.Strconv.AtoiInnerAll
import Derived.Shelf.Strconv.RangeError
import Derived.Shelf.Strconv.ToErrorRange
import Derived.Shelf.Strconv.AtoiAll
import Derived.Shelf.Strconv.ErrVarAll
import Derived.Shelf.Strings.Search1
import Derived.Shelf.Strings.Search2
import Derived.Shelf.Strings.Search3
import Derived.Shelf.Strings.Cut
import Derived.Shelf.Strings.Count
import Derived.Shelf.Strings.Shaped
import Derived.Shelf.Strings.Prefix
import Derived.Shelf.Strings.Split
import Derived.Shelf.Strings.Fields
import Derived.Shelf.Strings.SplitShaped
import Derived.Shelf.Unicode.Latin
import Derived.Shelf.Bits.Mul64
import Derived.Shelf.Unicode.DecodeSlow
import Derived.Shelf.Unicode.Is16White
import Derived.Shelf.Unicode.IsSpaceAny
import Derived.Shelf.Unicode.Is16Any
import Derived.Shelf.Unicode.Is32Any
import Derived.Shelf.Unicode.ExclAny
import Derived.Test.YtbmdmoknnlhdoaaGreatDoorProg
import Derived.Test.YtbmdmoknnlhdoaaGreatDoorM3
import Derived.Lib.AppendIntMem
import Derived.Lib.ItoaLen
import Derived.OrdersIn
namespace Go.Proofs
open Go.Shelf
def Tryz.lays169_ren : Go.Shelf.Ren := ⟨fun | 169 => 36 | n => n, fun | 70 => 92 | 9 => 9 | 0 => 0 | 72 => 95 | 37 => 93 | 127 => 131 | 3 => 3 | 5 => 5 | n => n, fun | n => n⟩
theorem Tryz.lays169 : Go.Proofs.Lays.n169 Tryz.prog Tryz.lays169_ren := {
  mixed := by kernel_rfl
  f169 := Tryz.func36.trans (congrArg some (by kernel_rfl))
  t0 := Tryz.underlying0
  a0 := Tryz.isAgg0
  z0 := Tryz.sizeOf0
  v0 := Tryz.zeroValue0
  t3 := Tryz.underlying3
  a3 := Tryz.isAgg3
  z3 := Tryz.sizeOf3
  v3 := Tryz.zeroValue3
  t9 := Tryz.underlying9
  a9 := Tryz.isAgg9
  z9 := Tryz.sizeOf9
  v9 := Tryz.zeroValue9
  t37 := Tryz.underlying93
  a37 := Tryz.isAgg93
  z37 := Tryz.sizeOf93
  v37 := Tryz.zeroValue93
  t70 := Tryz.underlying92
  a70 := Tryz.isAgg92
  z70 := Tryz.sizeOf92
  v70 := Tryz.zeroValue92
  t72 := Tryz.underlying95
  a72 := Tryz.isAgg95
  z72 := Tryz.sizeOf95
  v72 := Tryz.zeroValue95
  t127 := Tryz.underlying131
  a127 := Tryz.isAgg131
  z127 := Tryz.sizeOf131
  v127 := Tryz.zeroValue131 }
theorem Tryz.Builder_Extra_169 : Builder.Extra Tryz.prog Tryz.lays169_ren := {
  sizeBuilder := by kernel_rfl
  liesBuilder := by kernel_rfl
  t5 := Tryz.underlying5
  a5 := Tryz.isAgg5
  z5 := Tryz.sizeOf5
  v5 := Tryz.zeroValue5
  infoByte := by kernel_rfl
  cellsByte := by kernel_rfl
  sizeByte := by kernel_rfl
  neB5 := by decide }
def Tryz.lays156_ren : Go.Shelf.Ren := ⟨fun | 156 => 70 | 165 => 115 | 166 => 65 | 169 => 36 | 240 => 69 | 241 => 158 | 276 => 114 | 277 => 196 | n => n, fun | 31 => 47 | 9 => 9 | 3 => 3 | 4 => 4 | 0 => 0 | 20 => 20 | 72 => 95 | 76 => 113 | 70 => 92 | 37 => 93 | 75 => 97 | 127 => 131 | 164 => 176 | 5 => 5 | 80 => 101 | n => n, fun | n => n⟩
theorem Tryz.lays156 : Go.Proofs.Lays.n156 Tryz.prog Tryz.lays156_ren := {
  mixed := by kernel_rfl
  f156 := Tryz.func70.trans (congrArg some (by kernel_rfl))
  f165 := Tryz.func115.trans (congrArg some (by kernel_rfl))
  f166 := Tryz.func65.trans (congrArg some (by kernel_rfl))
  f169 := Tryz.func36.trans (congrArg some (by kernel_rfl))
  f240 := Tryz.func69.trans (congrArg some (by kernel_rfl))
  f241 := Tryz.func158.trans (congrArg some (by kernel_rfl))
  f276 := Tryz.func114.trans (congrArg some (by kernel_rfl))
  f277 := Tryz.func196.trans (congrArg some (by kernel_rfl))
  t0 := Tryz.underlying0
  a0 := Tryz.isAgg0
  z0 := Tryz.sizeOf0
  v0 := Tryz.zeroValue0
  t3 := Tryz.underlying3
  a3 := Tryz.isAgg3
  z3 := Tryz.sizeOf3
  v3 := Tryz.zeroValue3
  t4 := Tryz.underlying4
  a4 := Tryz.isAgg4
  z4 := Tryz.sizeOf4
  v4 := Tryz.zeroValue4
  t9 := Tryz.underlying9
  a9 := Tryz.isAgg9
  z9 := Tryz.sizeOf9
  v9 := Tryz.zeroValue9
  t20 := Tryz.underlying20
  a20 := Tryz.isAgg20
  z20 := Tryz.sizeOf20
  v20 := Tryz.zeroValue20
  t31 := Tryz.underlying47
  a31 := Tryz.isAgg47
  z31 := Tryz.sizeOf47
  v31 := Tryz.zeroValue47
  t37 := Tryz.underlying93
  a37 := Tryz.isAgg93
  z37 := Tryz.sizeOf93
  v37 := Tryz.zeroValue93
  t70 := Tryz.underlying92
  a70 := Tryz.isAgg92
  z70 := Tryz.sizeOf92
  v70 := Tryz.zeroValue92
  t72 := Tryz.underlying95
  a72 := Tryz.isAgg95
  z72 := Tryz.sizeOf95
  v72 := Tryz.zeroValue95
  t75 := Tryz.underlying97
  a75 := Tryz.isAgg97
  z75 := Tryz.sizeOf97
  v75 := Tryz.zeroValue97
  t76 := Tryz.underlying113
  a76 := Tryz.isAgg113
  z76 := Tryz.sizeOf113
  v76 := Tryz.zeroValue113
  t127 := Tryz.underlying131
  a127 := Tryz.isAgg131
  z127 := Tryz.sizeOf131
  v127 := Tryz.zeroValue131
  t164 := Tryz.underlying176
  a164 := Tryz.isAgg176
  z164 := Tryz.sizeOf176
  v164 := Tryz.zeroValue176 }
theorem Tryz.Builder_Extra_156 : Builder.Extra Tryz.prog Tryz.lays156_ren := {
  sizeBuilder := by kernel_rfl
  liesBuilder := by kernel_rfl
  t5 := Tryz.underlying5
  a5 := Tryz.isAgg5
  z5 := Tryz.sizeOf5
  v5 := Tryz.zeroValue5
  infoByte := by kernel_rfl
  cellsByte := by kernel_rfl
  sizeByte := by kernel_rfl
  neB5 := by decide }
open Go.RowKit in
theorem Tryz.Builder_String_any_k (B b : Nat) (l : List UInt8) (w : World) (h : Lib.IsBuilderF 95 5 B b (Lib.byteCells l) w) (hBw : B ≤ w.heap.size) :
    Calls Tryz.prog 36 #[.pointer (some ⟨b, 0, none⟩)] w fun e w' => e = .returned (.string ⟨l.toArray⟩) ∧ (Lib.IsBuilderF 95 5 B b (Lib.byteCells l) w' ∧ Below B w w' ∧ Lib.OthersKept 5 (some b) w w') := Any.Builder_String_any_k Tryz.lays169 Tryz.Builder_Extra_169 B b l w h hBw
def Tryz.laysM171_ren : Go.Shelf.Ren := ⟨fun | 171 => 35 | 243 => 71 | 246 => 116 | 283 => 159 | 284 => 160 | 285 => 161 | 286 => 162 | 129 => 198 | 317 => 197 | 318 => 199 | 319 => 200 | 320 => 201 | 337 => 232 | 338 => 233 | n => n, fun | 3 => 3 | 9 => 9 | 2 => 2 | 4 => 4 | 171 => 214 | 0 => 0 | 53 => 206 | 37 => 93 | 5 => 5 | 173 => 217 | 212 => 254 | 51 => 234 | 20 => 20 | 213 => 255 | 46 => 99 | 232 => 103 | 233 => 311 | n => n, fun | 17 => 7 | 18 => 12 | 19 => 13 | n => n⟩
theorem Tryz.laysM171 : Go.Proofs.LaysM.n171 Tryz.prog Tryz.laysM171_ren := {
  mixed := by kernel_rfl
  f129 := Tryz.func198.trans (congrArg some (by kernel_rfl))
  f171 := Tryz.func35.trans (congrArg some (by kernel_rfl))
  f243 := Tryz.func71.trans (congrArg some (by kernel_rfl))
  f246 := Tryz.func116.trans (congrArg some (by kernel_rfl))
  f283 := Tryz.func159.trans (congrArg some (by kernel_rfl))
  f284 := Tryz.func160.trans (congrArg some (by kernel_rfl))
  f285 := Tryz.func161.trans (congrArg some (by kernel_rfl))
  f286 := Tryz.func162.trans (congrArg some (by kernel_rfl))
  f317 := Tryz.func197.trans (congrArg some (by kernel_rfl))
  f318 := Tryz.func199.trans (congrArg some (by kernel_rfl))
  f319 := Tryz.func200.trans (congrArg some (by kernel_rfl))
  f320 := Tryz.func201.trans (congrArg some (by kernel_rfl))
  f337 := Tryz.func232.trans (congrArg some (by kernel_rfl))
  f338 := Tryz.func233.trans (congrArg some (by kernel_rfl))
  t0 := Tryz.underlying0
  a0 := Tryz.isAgg0
  z0 := Tryz.sizeOf0
  v0 := Tryz.zeroValue0
  t2 := Tryz.underlying2
  a2 := Tryz.isAgg2
  z2 := Tryz.sizeOf2
  v2 := Tryz.zeroValue2
  t3 := Tryz.underlying3
  a3 := Tryz.isAgg3
  z3 := Tryz.sizeOf3
  v3 := Tryz.zeroValue3
  t4 := Tryz.underlying4
  a4 := Tryz.isAgg4
  z4 := Tryz.sizeOf4
  v4 := Tryz.zeroValue4
  t5 := Tryz.underlying5
  a5 := Tryz.isAgg5
  z5 := Tryz.sizeOf5
  v5 := Tryz.zeroValue5
  t9 := Tryz.underlying9
  a9 := Tryz.isAgg9
  z9 := Tryz.sizeOf9
  v9 := Tryz.zeroValue9
  t20 := Tryz.underlying20
  a20 := Tryz.isAgg20
  z20 := Tryz.sizeOf20
  v20 := Tryz.zeroValue20
  t37 := Tryz.underlying93
  a37 := Tryz.isAgg93
  z37 := Tryz.sizeOf93
  v37 := Tryz.zeroValue93
  t46 := Tryz.underlying99
  a46 := Tryz.isAgg99
  z46 := Tryz.sizeOf99
  v46 := Tryz.zeroValue99
  t51 := Tryz.underlying234
  a51 := Tryz.isAgg234
  z51 := Tryz.sizeOf234
  v51 := Tryz.zeroValue234
  t53 := Tryz.underlying206
  a53 := Tryz.isAgg206
  z53 := Tryz.sizeOf206
  v53 := Tryz.zeroValue206
  t171 := Tryz.underlying214
  a171 := Tryz.isAgg214
  z171 := Tryz.sizeOf214
  v171 := Tryz.zeroValue214
  t173 := Tryz.underlying217
  a173 := Tryz.isAgg217
  z173 := Tryz.sizeOf217
  v173 := Tryz.zeroValue217
  t212 := Tryz.underlying254
  a212 := Tryz.isAgg254
  z212 := Tryz.sizeOf254
  v212 := Tryz.zeroValue254
  t213 := Tryz.underlying255
  a213 := Tryz.isAgg255
  z213 := Tryz.sizeOf255
  t232 := Tryz.underlying103
  a232 := Tryz.isAgg103
  z232 := Tryz.sizeOf103
  v232 := Tryz.zeroValue103
  t233 := Tryz.underlying311
  a233 := Tryz.isAgg311
  z233 := Tryz.sizeOf311
  v233 := Tryz.zeroValue311
  g17 := by kernel_rfl
  g18 := by kernel_rfl
  g19 := by kernel_rfl
  i0 := by kernel_rfl
  i2 := by kernel_rfl
  i3 := by kernel_rfl
  i4 := by kernel_rfl
  i5 := by kernel_rfl
  i9 := by kernel_rfl
  i20 := by kernel_rfl
  i37 := by kernel_rfl
  i46 := by kernel_rfl
  i51 := by kernel_rfl
  i53 := by kernel_rfl
  i171 := by kernel_rfl
  i173 := by kernel_rfl
  i212 := by kernel_rfl
  i232 := by kernel_rfl
  i233 := by kernel_rfl
  m17 := by kernel_rfl
  m18 := by kernel_rfl
  m19 := by kernel_rfl }
open Go.RowKit Go.Sort Go.Lib in
theorem Tryz.strconv_Itoa (n : Int) (h0 : -9223372036854775808 ≤ n) (h1 : n ≤ 9223372036854775807) (w : World) (htab : Lib.TabIs Tryz.prog w "internal/strconv.uint64pow10" .u64 Lib.pow10Tab) :
    Calls Tryz.prog 35 #[.int .i64 n] w fun e w' => e = .returned (.string ⟨(Lib.itoa n).toArray⟩) ∧ ∃ k os, w' = grow (w.drewN k) os := Any.strconv_Itoa Tryz.laysM171 n h0 h1 w htab
def Tryz.laysC172_ren : Go.Shelf.Ren := ⟨fun | 172 => 48 | 244 => 80 | 245 => 81 | 247 => 126 | 279 => 127 | 280 => 128 | 281 => 129 | 282 => 130 | 287 => 174 | 316 => 175 | 171 => 35 | 205 => 176 | 321 => 206 | 322 => 207 | 243 => 71 | 246 => 116 | 283 => 159 | 284 => 160 | 285 => 161 | 286 => 162 | 129 => 198 | 317 => 197 | 318 => 199 | 319 => 200 | 320 => 201 | 337 => 232 | 338 => 233 | n => n, fun | 9 => 9 | 3 => 3 | 75 => 97 | 76 => 113 | 4 => 4 | 5 => 5 | 167 => 185 | 37 => 93 | 0 => 0 | 85 => 186 | 2 => 2 | 168 => 188 | 53 => 206 | 175 => 226 | 46 => 99 | 210 => 229 | 127 => 131 | 145 => 261 | 143 => 259 | 21 => 21 | 171 => 214 | 173 => 217 | 212 => 254 | 51 => 234 | 20 => 20 | 213 => 255 | 232 => 103 | 233 => 311 | 80 => 101 | n => n, fun | 15 => 3 | 16 => 4 | 17 => 7 | 18 => 12 | 19 => 13 | n => n⟩
theorem Tryz.laysC172 : Go.Proofs.LaysC.n172 Tryz.prog Tryz.laysC172_ren := {
  mixed := by kernel_rfl
  f129 := Tryz.func198.trans (congrArg some (by kernel_rfl))
  f171 := Tryz.func35.trans (congrArg some (by kernel_rfl))
  f172 := Tryz.func48.trans (congrArg some (by kernel_rfl))
  f205 := Tryz.func176.trans (congrArg some (by kernel_rfl))
  f243 := Tryz.func71.trans (congrArg some (by kernel_rfl))
  f244 := Tryz.func80.trans (congrArg some (by kernel_rfl))
  f245 := Tryz.func81.trans (congrArg some (by kernel_rfl))
  f246 := Tryz.func116.trans (congrArg some (by kernel_rfl))
  f247 := Tryz.func126.trans (congrArg some (by kernel_rfl))
  f279 := Tryz.func127.trans (congrArg some (by kernel_rfl))
  f280 := Tryz.func128.trans (congrArg some (by kernel_rfl))
  f281 := Tryz.func129.trans (congrArg some (by kernel_rfl))
  f282 := Tryz.func130.trans (congrArg some (by kernel_rfl))
  f283 := Tryz.func159.trans (congrArg some (by kernel_rfl))
  f284 := Tryz.func160.trans (congrArg some (by kernel_rfl))
  f285 := Tryz.func161.trans (congrArg some (by kernel_rfl))
  f286 := Tryz.func162.trans (congrArg some (by kernel_rfl))
  f287 := Tryz.func174.trans (congrArg some (by kernel_rfl))
  f316 := Tryz.func175.trans (congrArg some (by kernel_rfl))
  f317 := Tryz.func197.trans (congrArg some (by kernel_rfl))
  f318 := Tryz.func199.trans (congrArg some (by kernel_rfl))
  f319 := Tryz.func200.trans (congrArg some (by kernel_rfl))
  f320 := Tryz.func201.trans (congrArg some (by kernel_rfl))
  f321 := Tryz.func206.trans (congrArg some (by kernel_rfl))
  f322 := Tryz.func207.trans (congrArg some (by kernel_rfl))
  f337 := Tryz.func232.trans (congrArg some (by kernel_rfl))
  f338 := Tryz.func233.trans (congrArg some (by kernel_rfl))
  t0 := Tryz.underlying0
  a0 := Tryz.isAgg0
  z0 := Tryz.sizeOf0
  v0 := Tryz.zeroValue0
  t2 := Tryz.underlying2
  a2 := Tryz.isAgg2
  z2 := Tryz.sizeOf2
  v2 := Tryz.zeroValue2
  t3 := Tryz.underlying3
  a3 := Tryz.isAgg3
  z3 := Tryz.sizeOf3
  v3 := Tryz.zeroValue3
  t4 := Tryz.underlying4
  a4 := Tryz.isAgg4
  z4 := Tryz.sizeOf4
  v4 := Tryz.zeroValue4
  t5 := Tryz.underlying5
  a5 := Tryz.isAgg5
  z5 := Tryz.sizeOf5
  v5 := Tryz.zeroValue5
  t9 := Tryz.underlying9
  a9 := Tryz.isAgg9
  z9 := Tryz.sizeOf9
  v9 := Tryz.zeroValue9
  t20 := Tryz.underlying20
  a20 := Tryz.isAgg20
  z20 := Tryz.sizeOf20
  v20 := Tryz.zeroValue20
  t21 := Tryz.underlying21
  a21 := Tryz.isAgg21
  z21 := Tryz.sizeOf21
  v21 := Tryz.zeroValue21
  t37 := Tryz.underlying93
  a37 := Tryz.isAgg93
  z37 := Tryz.sizeOf93
  v37 := Tryz.zeroValue93
  t46 := Tryz.underlying99
  a46 := Tryz.isAgg99
  z46 := Tryz.sizeOf99
  v46 := Tryz.zeroValue99
  t51 := Tryz.underlying234
  a51 := Tryz.isAgg234
  z51 := Tryz.sizeOf234
  v51 := Tryz.zeroValue234
  t53 := Tryz.underlying206
  a53 := Tryz.isAgg206
  z53 := Tryz.sizeOf206
  v53 := Tryz.zeroValue206
  t75 := Tryz.underlying97
  a75 := Tryz.isAgg97
  z75 := Tryz.sizeOf97
  v75 := Tryz.zeroValue97
  t76 := Tryz.underlying113
  a76 := Tryz.isAgg113
  z76 := Tryz.sizeOf113
  v76 := Tryz.zeroValue113
  t85 := Tryz.underlying186
  a85 := Tryz.isAgg186
  z85 := Tryz.sizeOf186
  v85 := Tryz.zeroValue186
  t127 := Tryz.underlying131
  a127 := Tryz.isAgg131
  z127 := Tryz.sizeOf131
  v127 := Tryz.zeroValue131
  t143 := Tryz.underlying259
  a143 := Tryz.isAgg259
  z143 := Tryz.sizeOf259
  v143 := Tryz.zeroValue259
  t145 := Tryz.underlying261
  a145 := Tryz.isAgg261
  z145 := Tryz.sizeOf261
  v145 := Tryz.zeroValue261
  t167 := Tryz.underlying185
  a167 := Tryz.isAgg185
  z167 := Tryz.sizeOf185
  v167 := Tryz.zeroValue185
  t168 := Tryz.underlying188
  a168 := Tryz.isAgg188
  z168 := Tryz.sizeOf188
  v168 := Tryz.zeroValue188
  t171 := Tryz.underlying214
  a171 := Tryz.isAgg214
  z171 := Tryz.sizeOf214
  v171 := Tryz.zeroValue214
  t173 := Tryz.underlying217
  a173 := Tryz.isAgg217
  z173 := Tryz.sizeOf217
  v173 := Tryz.zeroValue217
  t175 := Tryz.underlying226
  a175 := Tryz.isAgg226
  z175 := Tryz.sizeOf226
  v175 := Tryz.zeroValue226
  t210 := Tryz.underlying229
  a210 := Tryz.isAgg229
  z210 := Tryz.sizeOf229
  v210 := Tryz.zeroValue229
  t212 := Tryz.underlying254
  a212 := Tryz.isAgg254
  z212 := Tryz.sizeOf254
  v212 := Tryz.zeroValue254
  t213 := Tryz.underlying255
  a213 := Tryz.isAgg255
  z213 := Tryz.sizeOf255
  t232 := Tryz.underlying103
  a232 := Tryz.isAgg103
  z232 := Tryz.sizeOf103
  v232 := Tryz.zeroValue103
  t233 := Tryz.underlying311
  a233 := Tryz.isAgg311
  z233 := Tryz.sizeOf311
  v233 := Tryz.zeroValue311
  g15 := by kernel_rfl
  g16 := by kernel_rfl
  g17 := by kernel_rfl
  g18 := by kernel_rfl
  g19 := by kernel_rfl
  t80 := Tryz.underlying101
  a80 := Tryz.isAgg101
  z80 := Tryz.sizeOf101
  v80 := Tryz.zeroValue101
  i0 := by kernel_rfl
  i2 := by kernel_rfl
  i3 := by kernel_rfl
  i4 := by kernel_rfl
  i5 := by kernel_rfl
  i9 := by kernel_rfl
  i20 := by kernel_rfl
  i21 := by kernel_rfl
  i37 := by kernel_rfl
  i46 := by kernel_rfl
  i51 := by kernel_rfl
  i53 := by kernel_rfl
  i75 := by kernel_rfl
  i76 := by kernel_rfl
  i80 := by kernel_rfl
  i85 := by kernel_rfl
  i127 := by kernel_rfl
  i143 := by kernel_rfl
  i145 := by kernel_rfl
  i167 := by kernel_rfl
  i168 := by kernel_rfl
  i171 := by kernel_rfl
  i173 := by kernel_rfl
  i175 := by kernel_rfl
  i210 := by kernel_rfl
  i212 := by kernel_rfl
  i232 := by kernel_rfl
  i233 := by kernel_rfl
  m15 := by kernel_rfl
  m16 := by kernel_rfl
  m17 := by kernel_rfl
  m18 := by kernel_rfl
  m19 := by kernel_rfl
  c0 := by kernel_rfl
  c2 := by kernel_rfl
  c3 := by kernel_rfl
  c4 := by kernel_rfl
  c5 := by kernel_rfl
  c9 := by kernel_rfl
  c20 := by kernel_rfl
  c21 := by kernel_rfl
  c37 := by kernel_rfl
  c46 := by kernel_rfl
  c51 := by kernel_rfl
  c53 := by kernel_rfl
  c75 := by kernel_rfl
  c76 := by kernel_rfl
  c80 := by kernel_rfl
  c85 := by kernel_rfl
  c127 := by kernel_rfl
  c143 := by kernel_rfl
  c145 := by kernel_rfl
  c167 := by kernel_rfl
  c168 := by kernel_rfl
  c171 := by kernel_rfl
  c173 := by kernel_rfl
  c175 := by kernel_rfl
  c210 := by kernel_rfl
  c212 := by kernel_rfl
  c213 := by kernel_rfl
  c232 := by kernel_rfl
  c233 := by kernel_rfl }
open Go.RowKit in
theorem Tryz.strconv_Atoi_ok (s : ByteArray) (hmax : s.size ≤ 9223372036854775806) (v : Int) (h : Lib.atoiAll s.data.toList = .ok v) (w : World) :
    Calls Tryz.prog 48 #[.string s] w fun e w' => e = .returned (.tuple #[.int .i64 v, .nilIface]) ∧ (w' = w ∨ ∃ t, w' = Lib.bytesWorld w 5 t) := Any.strconv_Atoi_ok Tryz.laysC172 s hmax v h w
def Tryz.lays145_ren : Go.Shelf.Ren := ⟨fun | 145 => 47 | 220 => 79 | 219 => 125 | 217 => 170 | 225 => 171 | 224 => 172 | 267 => 173 | 266 => 204 | 314 => 205 | n => n, fun | 9 => 9 | 4 => 4 | 59 => 111 | 3 => 3 | 5 => 5 | 46 => 99 | 146 => 256 | 51 => 234 | n => n, fun | 1 => 2 | n => n⟩
theorem Tryz.lays145 : Go.Proofs.Lays.n145 Tryz.prog Tryz.lays145_ren := {
  mixed := by kernel_rfl
  f145 := Tryz.func47.trans (congrArg some (by kernel_rfl))
  f217 := Tryz.func170.trans (congrArg some (by kernel_rfl))
  f219 := Tryz.func125.trans (congrArg some (by kernel_rfl))
  f220 := Tryz.func79.trans (congrArg some (by kernel_rfl))
  f224 := Tryz.func172.trans (congrArg some (by kernel_rfl))
  f225 := Tryz.func171.trans (congrArg some (by kernel_rfl))
  f266 := Tryz.func204.trans (congrArg some (by kernel_rfl))
  f267 := Tryz.func173.trans (congrArg some (by kernel_rfl))
  f314 := Tryz.func205.trans (congrArg some (by kernel_rfl))
  t3 := Tryz.underlying3
  a3 := Tryz.isAgg3
  z3 := Tryz.sizeOf3
  v3 := Tryz.zeroValue3
  t4 := Tryz.underlying4
  a4 := Tryz.isAgg4
  z4 := Tryz.sizeOf4
  v4 := Tryz.zeroValue4
  t5 := Tryz.underlying5
  a5 := Tryz.isAgg5
  z5 := Tryz.sizeOf5
  v5 := Tryz.zeroValue5
  t9 := Tryz.underlying9
  a9 := Tryz.isAgg9
  z9 := Tryz.sizeOf9
  v9 := Tryz.zeroValue9
  t46 := Tryz.underlying99
  a46 := Tryz.isAgg99
  z46 := Tryz.sizeOf99
  v46 := Tryz.zeroValue99
  t51 := Tryz.underlying234
  a51 := Tryz.isAgg234
  z51 := Tryz.sizeOf234
  v51 := Tryz.zeroValue234
  t59 := Tryz.underlying111
  a59 := Tryz.isAgg111
  z59 := Tryz.sizeOf111
  v59 := Tryz.zeroValue111
  t146 := Tryz.underlying256
  a146 := Tryz.isAgg256
  z146 := Tryz.sizeOf256
  v146 := Tryz.zeroValue256
  g1 := by kernel_rfl }
open Go.RowKit Go.Lib in
theorem Tryz.strings_Cut (s sep : ByteArray) (m : Int) (w : World) (hs : s.size < 4294967281) (hm : w.cell? ⟨2, 0, none⟩ = some (.int .i64 m)) :
    Calls Tryz.prog 47 #[.string s, .string sep] w fun e w' => e = .returned (.tuple #[.string ⟨(Lib.cut s.data.toList sep.data.toList).1.toArray⟩, .string ⟨(Lib.cut s.data.toList sep.data.toList).2.1.toArray⟩, .bool (Lib.cut s.data.toList sep.data.toList).2.2]) ∧ ∃ n, w' = w.drewN n := Any.strings_Cut Tryz.lays145 s sep m w hs hm
def Tryz.lays100_ren : Go.Shelf.Ren := ⟨fun | 100 => 45 | 207 => 77 | n => n, fun | 9 => 9 | 4 => 4 | 3 => 3 | n => n, fun | n => n⟩
theorem Tryz.lays100 : Go.Proofs.Lays.n100 Tryz.prog Tryz.lays100_ren := {
  mixed := by kernel_rfl
  f100 := Tryz.func45.trans (congrArg some (by kernel_rfl))
  f207 := Tryz.func77.trans (congrArg some (by kernel_rfl))
  t3 := Tryz.underlying3
  a3 := Tryz.isAgg3
  z3 := Tryz.sizeOf3
  v3 := Tryz.zeroValue3
  t4 := Tryz.underlying4
  a4 := Tryz.isAgg4
  z4 := Tryz.sizeOf4
  v4 := Tryz.zeroValue4
  t9 := Tryz.underlying9
  a9 := Tryz.isAgg9
  z9 := Tryz.sizeOf9
  v9 := Tryz.zeroValue9 }
open Go.RowKit Go.Lib in
theorem Tryz.strings_HasSuffix (s p : ByteArray) (w : World) (hs : s.size ≤ 9223372036854775807) :
    Calls Tryz.prog 45 #[.string s, .string p] w fun e w' => e = .returned (.bool (Lib.hasSuffix s.data.toList p.data.toList)) ∧ w' = w := Any.strings_HasSuffix Tryz.lays100 s p w hs
def Tryz.lays146_ren : Go.Shelf.Ren := ⟨fun | 146 => 46 | 221 => 78 | 268 => 122 | 138 => 123 | 143 => 124 | 195 => 167 | 197 => 168 | 218 => 169 | 219 => 125 | 260 => 203 | 217 => 170 | 225 => 171 | 224 => 172 | 267 => 173 | 266 => 204 | 314 => 205 | n => n, fun | 9 => 9 | 31 => 47 | 3 => 3 | 4 => 4 | 0 => 0 | 105 => 222 | 21 => 21 | 5 => 5 | 46 => 99 | 119 => 194 | 139 => 292 | 138 => 291 | 146 => 256 | 51 => 234 | n => n, fun | 1 => 2 | 3 => 9 | 4 => 10 | n => n⟩
theorem Tryz.lays146 : Go.Proofs.Lays.n146 Tryz.prog Tryz.lays146_ren := {
  mixed := by kernel_rfl
  f138 := Tryz.func123.trans (congrArg some (by kernel_rfl))
  f143 := Tryz.func124.trans (congrArg some (by kernel_rfl))
  f146 := Tryz.func46.trans (congrArg some (by kernel_rfl))
  f195 := Tryz.func167.trans (congrArg some (by kernel_rfl))
  f197 := Tryz.func168.trans (congrArg some (by kernel_rfl))
  f217 := Tryz.func170.trans (congrArg some (by kernel_rfl))
  f218 := Tryz.func169.trans (congrArg some (by kernel_rfl))
  f219 := Tryz.func125.trans (congrArg some (by kernel_rfl))
  f221 := Tryz.func78.trans (congrArg some (by kernel_rfl))
  f224 := Tryz.func172.trans (congrArg some (by kernel_rfl))
  f225 := Tryz.func171.trans (congrArg some (by kernel_rfl))
  f260 := Tryz.func203.trans (congrArg some (by kernel_rfl))
  f266 := Tryz.func204.trans (congrArg some (by kernel_rfl))
  f267 := Tryz.func173.trans (congrArg some (by kernel_rfl))
  f268 := Tryz.func122.trans (congrArg some (by kernel_rfl))
  f314 := Tryz.func205.trans (congrArg some (by kernel_rfl))
  t0 := Tryz.underlying0
  a0 := Tryz.isAgg0
  z0 := Tryz.sizeOf0
  v0 := Tryz.zeroValue0
  t3 := Tryz.underlying3
  a3 := Tryz.isAgg3
  z3 := Tryz.sizeOf3
  v3 := Tryz.zeroValue3
  t4 := Tryz.underlying4
  a4 := Tryz.isAgg4
  z4 := Tryz.sizeOf4
  v4 := Tryz.zeroValue4
  t5 := Tryz.underlying5
  a5 := Tryz.isAgg5
  z5 := Tryz.sizeOf5
  v5 := Tryz.zeroValue5
  t9 := Tryz.underlying9
  a9 := Tryz.isAgg9
  z9 := Tryz.sizeOf9
  v9 := Tryz.zeroValue9
  t21 := Tryz.underlying21
  a21 := Tryz.isAgg21
  z21 := Tryz.sizeOf21
  v21 := Tryz.zeroValue21
  t31 := Tryz.underlying47
  a31 := Tryz.isAgg47
  z31 := Tryz.sizeOf47
  v31 := Tryz.zeroValue47
  t46 := Tryz.underlying99
  a46 := Tryz.isAgg99
  z46 := Tryz.sizeOf99
  v46 := Tryz.zeroValue99
  t51 := Tryz.underlying234
  a51 := Tryz.isAgg234
  z51 := Tryz.sizeOf234
  v51 := Tryz.zeroValue234
  t105 := Tryz.underlying222
  a105 := Tryz.isAgg222
  z105 := Tryz.sizeOf222
  v105 := Tryz.zeroValue222
  t119 := Tryz.underlying194
  a119 := Tryz.isAgg194
  z119 := Tryz.sizeOf194
  t138 := Tryz.underlying291
  a138 := Tryz.isAgg291
  z138 := Tryz.sizeOf291
  v138 := Tryz.zeroValue291
  t139 := Tryz.underlying292
  a139 := Tryz.isAgg292
  z139 := Tryz.sizeOf292
  v139 := Tryz.zeroValue292
  t146 := Tryz.underlying256
  a146 := Tryz.isAgg256
  z146 := Tryz.sizeOf256
  v146 := Tryz.zeroValue256
  g1 := by kernel_rfl
  g3 := by kernel_rfl
  g4 := by kernel_rfl }
open Go.RowKit Go.Lib in
theorem Tryz.strings_Split (s sep : ByteArray) (m : Int) (w : World) (hs : s.size < 4294967281) (hm : w.cell? ⟨2, 0, none⟩ = some (.int .i64 m)) (h1 : 1 ≤ sep.size) :
    Calls Tryz.prog 46 #[.string s, .string sep] w fun e w' =>
      e = .returned (.slice (some ⟨w.heap.size, 0, none⟩) (Lib.countB s sep + 1) (Lib.countB s sep + 1)) ∧ w' = w.alloc (.cells ((Lib.splitB sep 0 (Lib.countB s sep) s).map Value.string).toArray 9) := Any.strings_Split Tryz.lays146 (by kernel_rfl) s sep m w hs hm h1
end Go.Proofs

namespace Go.Proofs.YtbmdmoknnlhdoaaGreatDoor.N
open Go Go.Am Go.Sp Go.Lib Go.RowKit
set_option maxRecDepth 100000

theorem mixed : Tryz.prog.follows .mixedOrders = true := by kernel_rfl
def ow0 : FuncId → Option (List Bool) := fun _ => none
structure GP where
  mx : Int
  e1 : Nat
  e2 : Nat
def gl0 (m : GP) : Globs := fun g =>
  bif Nat.beq g 2 then some (1, fun _ => .int .i64 m.mx) else
  bif Nat.beq g 7 then some (20, fun j => .int .u64 (pow10Tab.getD j 0)) else
  bif Nat.beq g 3 then some (1, fun _ => .ifc m.e1 .junk) else
  bif Nat.beq g 4 then some (1, fun _ => .ifc m.e2 .junk) else none
theorem gl_max (m : GP) : gl0 m 2 = some (1, fun _ => .int .i64 m.mx) := rfl
theorem gl_pow (m : GP) : gl0 m 7 = some (20, fun j => .int .u64 (pow10Tab.getD j 0)) := rfl
theorem split_c (m : GP) (c : UInt8) (s : Str) (hs : s.length < 4294967281) : Pure Tryz.prog (gl0 m) 46 [.str (bs s), .str (bs [c])] (.isl 1 (spl c s).length fun i _ => .str (bs ((spl c s).getD i []))) := by
  refine pure_of ⟨_, _, Tryz.func46, rfl, by kernel_rfl⟩ fun β w vs hf hg ha => ?_
  obtain ⟨u, v, rfl, h1, h2⟩ := rels2 ha
  rw [rel_str_inv h1, rel_str_inv h2]
  refine (Tryz.strings_Split (bs s) (bs [c]) m.mx w hs (glob_cell (hg _ _ _ (gl_max m)) (by decide) rfl) (Nat.le_refl 1)).mono fun e w' hh => ?_
  obtain ⟨he, rfl⟩ := hh
  have hl := splitB_all (bs [c]) (Nat.le_refl 1) 0 (countB (bs s) (bs [c])) (bs s) rfl
  rw [← hl] at he
  have hm := splitB_spl c (bs s)
  have e2 : (splitB (bs [c]) 0 (countB (bs s) (bs [c])) (bs s)).length = (spl c s).length := by rw [← bs_data s, ← hm, List.length_map]
  refine ⟨_, he, alloc_below, ?_⟩
  have r := rel_strs (hf _ (Nat.le_refl _)) (splitB (bs [c]) 0 (countB (bs s) (bs [c])) (bs s)) 9
  have e3 : (fun (i _ : Nat) => AV.str ((splitB (bs [c]) 0 (countB (bs s) (bs [c])) (bs s)).getD i .empty)) = fun i _ => .str (bs ((spl c s).getD i [])) := by
    funext i _
    rw [← bs_data s, ← hm]
    simp only [List.getD_eq_getElem?_getD, List.getElem?_map]
    cases (splitB (bs [c]) 0 (countB (bs s) (bs [c])) (bs s))[i]? with
    | none => rfl
    | some x => rfl
  rw [e3, e2] at r
  rw [e2]
  exact r

theorem itoa_c (m : GP) (n : Int) (hn : -9223372036854775808 ≤ n ∧ n ≤ 9223372036854775807) : Pure Tryz.prog (gl0 m) 35 [.int .i64 n] (.str (bs (itoa n))) := by
  refine pure_of ⟨_, _, Tryz.func35, rfl, by kernel_rfl⟩ fun β w vs hf hg ha => ?_
  obtain ⟨u, rfl, h1⟩ := rels1 ha
  rw [rel_int_inv h1]
  refine (Tryz.strconv_Itoa n hn.1 hn.2 w (glob_tab (by kernel_rfl) (hg _ _ _ (gl_pow m)))).mono fun e w' hh => ?_
  obtain ⟨he, k, os, rfl⟩ := hh
  exact ⟨_, he, ⟨rfl, rfl, rfl, by simp [Sort.grow], fun k hk => (Sort.heap_grow_old (w.drewN k) os hk)⟩, .str⟩

theorem atoi_c (m : GP) (s : Str) (n : Int) (hs : s.length ≤ 281474976710656) (h : atoiAll s = .ok n) : Pure Tryz.prog (gl0 m) 48 [.str (bs s)] (.tup [.int .i64 n, .raw .nilIface]) := by
  refine pure_of ⟨_, _, Tryz.func48, rfl, by kernel_rfl⟩ fun β w vs hf hg ha => ?_
  obtain ⟨u, rfl, h1⟩ := rels1 ha
  rw [rel_str_inv h1]
  refine (Tryz.strconv_Atoi_ok (bs s) (Nat.le_trans hs (by decide)) n h w).mono fun e w' hh => ?_
  obtain ⟨he, hw⟩ := hh
  refine ⟨_, he, ?_, .tup rfl fun j a v hu hv => ?_⟩
  · rcases hw with rfl | ⟨t, rfl⟩
    · exact Below.refl _ _
    · exact ⟨rfl, rfl, rfl, by rw [bytesWorld_size]; omega, fun k hk => bytesWorld_at_old w 5 t k hk⟩
  · match j, hu, hv with
    | 0, hu, hv => cases hu; cases hv; exact .int
    | 1, hu, hv => cases hu; cases hv; exact .raw (fun cs h => by cases h)

theorem cut_c (m : GP) (s p : Str) (hs : s.length < 4294967281) : Pure Tryz.prog (gl0 m) 47 [.str (bs s), .str (bs p)] (.tup [.str (bs (cut s p).1), .str (bs (cut s p).2.1), .bool (cut s p).2.2]) := by
  refine pure_of ⟨_, _, Tryz.func47, rfl, by kernel_rfl⟩ fun β w vs hf hg ha => ?_
  obtain ⟨u, v, rfl, h1, h2⟩ := rels2 ha
  rw [rel_str_inv h1, rel_str_inv h2]
  refine (Tryz.strings_Cut (bs s) (bs p) m.mx w hs (glob_cell (hg _ _ _ (gl_max m)) (by decide) rfl)).mono fun e w' hh => ?_
  obtain ⟨he, n, rfl⟩ := hh
  refine ⟨_, he, ⟨rfl, rfl, rfl, Nat.le_refl _, fun _ _ => rfl⟩, .tup rfl fun j a v hu hv => ?_⟩
  match j, hu, hv with
  | 0, hu, hv => cases hu; cases hv; exact .str
  | 1, hu, hv => cases hu; cases hv; exact .str
  | 2, hu, hv => cases hu; cases hv; exact .bool








end Go.Proofs.YtbmdmoknnlhdoaaGreatDoor.N

namespace Go.Proofs.YtbmdmoknnlhdoaaGreatDoor.N
open Go Go.Am Go.Sp Go.Lib Go.RowKit Go.Shelf
set_option maxRecDepth 100000

def bld_ren : Go.Shelf.Ren := ⟨fun | 156 => 70 | 165 => 115 | 166 => 65 | 167 => 33 | 169 => 36 | 240 => 69 | 241 => 158 | 276 => 114 | 277 => 196 | n => n, fun | 31 => 47 | 9 => 9 | 3 => 3 | 4 => 4 | 0 => 0 | 20 => 20 | 72 => 95 | 76 => 113 | 70 => 92 | 37 => 93 | 75 => 97 | 127 => 131 | 164 => 176 | 5 => 5 | 80 => 101 | n => n, fun | n => n⟩
theorem bld_lays : Lays.n167 Tryz.prog bld_ren := {
  mixed := mixed
  f167 := Tryz.func33.trans (congrArg some (by kernel_rfl))
  f240 := Tryz.func69.trans (congrArg some (by kernel_rfl))
  f276 := Tryz.func114.trans (congrArg some (by kernel_rfl))
  t0 := Tryz.underlying0
  a0 := Tryz.isAgg0
  z0 := Tryz.sizeOf0
  v0 := Tryz.zeroValue0
  t4 := Tryz.underlying4
  a4 := Tryz.isAgg4
  z4 := Tryz.sizeOf4
  v4 := Tryz.zeroValue4
  t5 := Tryz.underlying5
  a5 := Tryz.isAgg5
  z5 := Tryz.sizeOf5
  v5 := Tryz.zeroValue5
  t9 := Tryz.underlying9
  a9 := Tryz.isAgg9
  z9 := Tryz.sizeOf9
  v9 := Tryz.zeroValue9
  t20 := Tryz.underlying20
  a20 := Tryz.isAgg20
  z20 := Tryz.sizeOf20
  v20 := Tryz.zeroValue20
  t37 := Tryz.underlying93
  a37 := Tryz.isAgg93
  z37 := Tryz.sizeOf93
  v37 := Tryz.zeroValue93
  t70 := Tryz.underlying92
  a70 := Tryz.isAgg92
  z70 := Tryz.sizeOf92
  v70 := Tryz.zeroValue92
  t72 := Tryz.underlying95
  a72 := Tryz.isAgg95
  z72 := Tryz.sizeOf95
  v72 := Tryz.zeroValue95
  t75 := Tryz.underlying97
  a75 := Tryz.isAgg97
  z75 := Tryz.sizeOf97
  v75 := Tryz.zeroValue97
  t164 := Tryz.underlying176
  a164 := Tryz.isAgg176
  z164 := Tryz.sizeOf176
  v164 := Tryz.zeroValue176 }
theorem bld_extra : Builder.Extra Tryz.prog bld_ren := {
  sizeBuilder := by kernel_rfl
  liesBuilder := by kernel_rfl
  t5 := Tryz.underlying5
  a5 := Tryz.isAgg5
  z5 := Tryz.sizeOf5
  v5 := Tryz.zeroValue5
  infoByte := by kernel_rfl
  cellsByte := by kernel_rfl
  sizeByte := by kernel_rfl
  neB5 := by decide }
theorem wb_k (B b : Nat) (bs : List Value) (c : Int) (w : World) (h : IsBuilderF 95 5 B b bs w) (hlen : bs.length + 1 ≤ 140737488355328) (hBw : B ≤ w.heap.size) :
    Calls Tryz.prog 33 #[.pointer (some ⟨b, 0, none⟩), .int .u8 c] w fun e w' => e = .returned .nilIface ∧ (BuilderAtF 95 5 B b (.pointer (some ⟨b, 0, none⟩)) (bs ++ [.int .u8 c]) w' ∧ Below B w w' ∧ OthersKept 5 (some b) w w') :=
  Any.Builder_WriteByte_k bld_lays bld_extra B b bs c w h hlen hBw
theorem ws_k (B b : Nat) (bs : List Value) (s : ByteArray) (w : World) (h : IsBuilderF 95 5 B b bs w) (hlen : bs.length + s.size ≤ 140737488355328) (hBw : B ≤ w.heap.size) :
    Calls Tryz.prog 65 #[.pointer (some ⟨b, 0, none⟩), .string s] w fun e w' => e = .returned (.tuple #[.int .i64 s.size, .nilIface]) ∧ (BuilderAtF 95 5 B b (.pointer (some ⟨b, 0, none⟩)) (bs ++ strCells s) w' ∧ Below B w w' ∧ OthersKept 5 (some b) w w') :=
  Any.Builder_WriteString_k { Tryz.lays156 with } Tryz.Builder_Extra_156 B b bs s w h hlen hBw
theorem st_k (B b : Nat) (l : List UInt8) (w : World) (h : IsBuilderF 95 5 B b (Lib.byteCells l) w) (hBw : B ≤ w.heap.size) :
    Calls Tryz.prog 36 #[.pointer (some ⟨b, 0, none⟩)] w fun e w' => e = .returned (.string ⟨l.toArray⟩) ∧ (IsBuilderF 95 5 B b (Lib.byteCells l) w' ∧ Below B w w' ∧ OthersKept 5 (some b) w w') :=
  Any.Builder_String_any_k { Tryz.lays156 with } Tryz.Builder_Extra_156 B b l w h hBw


inductive Part where
  | s (x : Str)
  | n (x : Int)
deriving Inhabited
def Part.v : Part → Value
  | .s x => .iface 9 (.string (bs x))
  | .n x => .iface 3 (.int .i64 x)
def Part.t : Part → Str
  | .s x => x
  | .n x => itoa x
def Part.ok : Part → Prop
  | .s x => x.length ≤ 100000
  | .n x => -9223372036854775808 ≤ x ∧ x ≤ 9223372036854775807
def flatP (l : List Part) (k : Nat) : Str := (l.take k).flatMap Part.t
theorem flat_s {l : List Part} {k : Nat} {p : Part} (h : l[k]? = some p) : flatP l (k + 1) = flatP l k ++ p.t := by
  unfold flatP
  rw [List.take_add_one, h, List.flatMap_append]; simp
theorem itoa_le (n : Int) (hn : -9223372036854775808 ≤ n ∧ n ≤ 9223372036854775807) : (itoa n).length ≤ 100000 := Nat.le_trans (itoa_length_le n hn.1 hn.2) (by decide)
theorem part_le {p : Part} (h : p.ok) : p.t.length ≤ 100000 := by
  cases p with
  | s x => exact h
  | n x => exact itoa_le x h
theorem flat_le {l : List Part} (h : ∀ p ∈ l, p.ok) : ∀ k, k ≤ l.length → (flatP l k).length ≤ k * 100000
  | 0, _ => Nat.le_refl _
  | k + 1, hk => by
    have e : l[k]? = some l[k] := List.getElem?_eq_getElem (by omega)
    have h1 := flat_le h k (by omega)
    have h2 := part_le (h l[k] (List.getElem_mem (by omega)))
    rw [flat_s e, List.length_append]; omega
theorem write_k (B : Nat) (wr : World) (A F A' : Str) (hA : A' = A ++ F) (hl : A.length + F.length ≤ 140737488355328)
    (HB : IsBuilderF 95 5 B B (Lib.byteCells A) wr) (HW : B ≤ wr.heap.size) :
    Calls Tryz.prog 65 #[.pointer (some ⟨B, 0, none⟩), .string (bs F)] wr fun e w3 => e = .returned (.tuple #[.int .i64 (bs F).size, .nilIface]) ∧ IsBuilderF 95 5 B B (Lib.byteCells A') w3 ∧ Below B wr w3 := by
  refine (ws_k B B (Lib.byteCells A) (bs F) wr HB (by rw [Lib.byteCells_length, bs_size]; exact hl) HW).mono ?_
  rintro e w3 ⟨he, h3, hb3, _⟩
  have e3 : Lib.byteCells A ++ strCells (bs F) = Lib.byteCells A' := by rw [hA, Lib.byteCells_append, Lib.strCells_eq, bs_data]
  rw [e3] at h3
  exact ⟨he, .inr h3, hb3⟩

theorem bat_below {T e : TypeId} {B b : Nat} {p : Value} {bs : List Value} {W W' : World} (h : BuilderAtF T e B b p bs W) (hb : Below W.heap.size W W') : BuilderAtF T e B b p bs W' := by
  have hlt := h.lt
  obtain ⟨hB, v, hv, hown, hne⟩ := h
  exact ⟨hB, v, (hb.block b hlt).trans hv, hown.kept (row := none) ⟨hb.os, hb.tape, hb.output, hb.size, fun k hk _ => hb.block k hk⟩ (Classical.em _), hne⟩
theorem isb_below {T e : TypeId} {B b : Nat} {bs : List Value} {W W' : World} (h : IsBuilderF T e B b bs W) (hb : Below W.heap.size W W') : IsBuilderF T e B b bs W' :=
  h.elim (fun x => .inl (bat_below x hb)) (fun x => .inr (bat_below x hb))
theorem ta_str (v : Value) (w : World) : (Instr.typeAssert (.iface 9 v) 20 9 true).run Tryz.prog w = .ok (.tuple #[v, .bool true]) w := by
  simp only [Instr.typeAssert, Sem.run_bind, run_underlying Tryz.underlying9, Result.andThen_ok, Sem.run_ite, if_pos, if_true, Sem.run_pure]
theorem ta_no (v : Value) (w : World) : (Instr.typeAssert (.iface 3 v) 20 9 true).run Tryz.prog w = .ok (.tuple #[.string ⟨#[]⟩, .bool false]) w := by
  simp only [Instr.typeAssert, Sem.run_bind, run_underlying Tryz.underlying9, Result.andThen_ok, Sem.run_ite, Sem.run_pure]
  rw [if_neg (by decide)]
  simp only [if_true, Sem.run_bind, Tryz.zeroValue9, Result.andThen_ok, Sem.run_pure]
theorem ta_int (v : Value) (w : World) : (Instr.typeAssert (.iface 3 v) 20 3 true).run Tryz.prog w = .ok (.tuple #[v, .bool true]) w := by
  simp only [Instr.typeAssert, Sem.run_bind, run_underlying Tryz.underlying3, Result.andThen_ok, Sem.run_ite, if_pos, if_true, Sem.run_pure]

set_option maxHeartbeats 400000 in
theorem line_w (w : World) (l : List Part) (b off cap : Nat) (hc : ∀ j p, l[j]? = some p → w.cell? ⟨b, off + j, none⟩ = some p.v) (hb : l = [] ∨ b < w.heap.size) (hok : ∀ p ∈ l, p.ok) (hl : l.length ≤ 1000)
    (ht : TabIs Tryz.prog w "internal/strconv.uint64pow10" .u64 pow10Tab) :
    Calls Tryz.prog 28 #[.slice (some ⟨b, off, none⟩) l.length cap] w fun e w' => e = .returned (.string (bs (flatP l l.length ++ [10]))) ∧ Below w.heap.size w w' := by
  have HT := Any.hidJ (tabBelow_of_tabIs ht)
  go_enter Tryz.func28, Tryz.ntmps28
  go_wp2_with fail
  have H0 : Hid (IsBuilderF 95 5 w.heap.size w.heap.size (Lib.byteCells (flatP l 0)) (w.alloc (.cells #[.pointer none, .slice none 0 0] 95))) := Any.hidJ (IsBuilderF.of (fresh_isBuilder 95 5 w))
  have HW0 : Hid (Below w.heap.size w (w.alloc (.cells #[.pointer none, .slice none 0 0] 95))) := Any.hidJ ((Below.refl _ _).alloc (Nat.le_refl _) _)
  generalize w.alloc (.cells #[.pointer none, .slice none 0 0] 95) = w0 at H0 HW0 ⊢
  go_wp2_with fail
  go_loopw [10] (fun i wr => ∃ k : Nat, k ≤ l.length ∧ i = .int .i64 k ∧ Hid (IsBuilderF 95 5 w.heap.size w.heap.size (Lib.byteCells (flatP l k)) wr) ∧ Hid (Below w.heap.size w wr)) (fun i _ => l.length - (RowKit.intOf i).toNat)
  case atStart => exact ⟨0, Nat.zero_le _, rfl, H0, HW0⟩
  case round =>
    obtain ⟨k, hk, rfl, HB, HW⟩ := hrel
    by_cases hk9 : k < l.length
    · have hp : l[k]? = some l[k] := List.getElem?_eq_getElem hk9
      have hbl : b < w.heap.size := by
        rcases hb with rfl | h
        · exact absurd hk9 (Nat.not_lt_zero k)
        · exact h
      have hcc : wr.cell? ⟨b, off + k, none⟩ = some l[k].v := by
        have h := hc k l[k] hp
        unfold World.cell? at h ⊢
        rwa [HW.out.block b hbl]
      have hpo := hok l[k] (List.getElem_mem hk9)
      have hfl := flat_le hok k hk
      have hpl := part_le hpo
      have hs := flat_s hp
      generalize l[k] = p at *
      cases p with
      | s x =>
        replace hcc : wr.cell? ⟨b, off + k, none⟩ = some (.iface 9 (.string (bs x))) := hcc
        have hs : flatP l (k + 1) = flatP l k ++ x := hs
        have hpl : x.length ≤ 100000 := hpl
        go_wp2_with fail
        rw [ta_str]
        go_wp2_with fail
        refine (write_k w.heap.size wr (flatP l k) x (flatP l (k + 1)) hs (by omega) HB.out HW.out.size).mono ?_
        rintro e w3 ⟨rfl, h3, hb3⟩
        have H3 := Any.hidJ h3
        have HW3 := Any.hidJ (HW.out.trans hb3)
        clear h3 hb3
        go_wp2
        exact ⟨⟨k + 1, by omega, by go_num, H3, HW3⟩, by simp [RowKit.intOf]; omega⟩
      | n x =>
        replace hcc : wr.cell? ⟨b, off + k, none⟩ = some (.iface 3 (.int .i64 x)) := hcc
        have hs : flatP l (k + 1) = flatP l k ++ itoa x := hs
        have hpl : (itoa x).length ≤ 100000 := hpl
        go_wp2_with fail
        rw [ta_no]
        go_wp2_with fail
        rw [ta_int]
        go_wp2_with fail
        refine (Tryz.strconv_Itoa x hpo.1 hpo.2 wr (HT.out wr HW.out)).mono ?_
        rintro e w2 ⟨rfl, q, os, rfl⟩
        have Hb2 : Hid (Below w.heap.size wr (Sort.grow (wr.drewN q) os)) := Any.hidJ ⟨rfl, rfl, rfl, by simp [Sort.grow], fun k hk => (Sort.heap_grow_old (wr.drewN q) os (Nat.lt_of_lt_of_le hk HW.out.size))⟩
        have HB2 : Hid (IsBuilderF 95 5 w.heap.size w.heap.size (Lib.byteCells (flatP l k)) (Sort.grow (wr.drewN q) os)) := Any.hidJ (isb_below HB.out ⟨rfl, rfl, rfl, by simp [Sort.grow], fun k hk => (Sort.heap_grow_old (wr.drewN q) os hk)⟩)
        generalize Sort.grow (wr.drewN q) os = w2 at *
        go_wp2_with fail
        refine (write_k w.heap.size w2 (flatP l k) (itoa x) (flatP l (k + 1)) hs (by omega) HB2.out (HW.out.trans Hb2.out).size).mono ?_
        rintro e w3 ⟨rfl, h3, hb3⟩
        have H3 := Any.hidJ h3
        have HW3 := Any.hidJ ((HW.out.trans Hb2.out).trans hb3)
        clear h3 hb3
        go_wp2
        exact ⟨⟨k + 1, by omega, by go_num, H3, HW3⟩, by simp [RowKit.intOf]; omega⟩
    · obtain rfl : k = l.length := by omega
      have hfl := flat_le hok l.length (Nat.le_refl _)
      go_wp2_with fail
      refine (wb_k w.heap.size w.heap.size (Lib.byteCells (flatP l l.length)) 10 wr HB.out (by rw [Lib.byteCells_length]; omega) HW.out.size).mono ?_
      rintro e w3 ⟨rfl, h3, hb3, _⟩
      have e3 : Lib.byteCells (flatP l l.length) ++ [.int .u8 10] = Lib.byteCells (flatP l l.length ++ [10]) := by rw [Lib.byteCells_append]; rfl
      rw [e3] at h3
      have H3 := Any.hidJ (show IsBuilderF 95 5 w.heap.size w.heap.size (Lib.byteCells (flatP l l.length ++ [10])) w3 from .inr h3)
      have HW3 := Any.hidJ (HW.out.trans hb3)
      clear h3 hb3
      go_wp2_with fail
      refine (st_k w.heap.size w.heap.size (flatP l l.length ++ [10]) w3 H3.out HW3.out.size).mono ?_
      rintro e w5 ⟨rfl, _, hb5, _⟩
      have Hb5 := Any.hidJ (HW3.out.trans hb5)
      clear hb5
      go_wp2
      go_ret
      exact ⟨rfl, Hb5.out⟩


def Part.a : Part → AV
  | .s x => .ifc 9 (.str (bs x))
  | .n x => .ifc 3 (.int .i64 x)
theorem part_v {β : Book} {w : World} {p : Part} {v : Value} (h : Rel β w p.a v) : v = p.v := by
  cases p with
  | s x => cases h with | ifc h => rw [rel_str_inv h]; rfl
  | n x => cases h with | ifc h => rw [rel_int_inv h]; rfl
theorem line_c (m : GP) (l : List Part) (hok : ∀ p ∈ l, p.ok) (hl : l.length ≤ 1000) (hz : l ≠ []) : Pure Tryz.prog (gl0 m) 28 [.isl 1 l.length fun i _ => (l.getD i default).a] (.str (bs (flatP l l.length ++ [10]))) := by
  refine pure_of ⟨_, _, Tryz.func28, rfl, by kernel_rfl⟩ fun β w vs hf hg ha => ?_
  obtain ⟨u, rfl, h1⟩ := rels1 ha
  obtain ⟨a, cap, rfl, hcap, _, hk⟩ := rel_isl_inv h1
  have ht : TabIs Tryz.prog w "internal/strconv.uint64pow10" .u64 pow10Tab := glob_tab (by kernel_rfl) (hg _ _ _ (gl_pow m))
  obtain ⟨b, off, vals, rfl, _, hbl, hc, hr, _⟩ := hk (List.length_pos_iff.2 hz)
  · refine (line_w w l b off cap (fun j p hp => ?_) (.inr ?_) hok hl ht).mono fun e w' hh => ?_
    · have hlt := (List.getElem?_eq_some_iff.1 hp).1
      have h := hc j 0 hlt (by decide)
      rw [Nat.mul_one, Nat.add_zero] at h
      rw [h]
      have hr := hr j 0 hlt (by decide)
      rw [List.getD_eq_getElem?_getD, hp] at hr
      rw [part_v hr]; rfl
    · have h := hc 0 0 (List.length_pos_iff.2 hz) (by decide)
      exact World.block_lt_of_cell? _ _ h
    · obtain ⟨he, hb⟩ := hh
      exact ⟨_, he, hb, .str⟩

end Go.Proofs.YtbmdmoknnlhdoaaGreatDoor.N

namespace Go.Sp
open Go Go.Am

structure Sup where
  bank : Int
  epoch : Int
  denom : Int
  issued : Int
  ret : Int
  dbl : Int
  exp : Int
deriving Inhabited
def Sup.cells (s : Sup) : List AV := [.int .i64 s.bank, .int .i64 s.epoch, .int .i64 s.denom, .int .i64 s.issued, .int .i64 s.ret, .int .i64 s.dbl, .int .i64 s.exp]
def I64 (n : Int) : Prop := -9223372036854775808 ≤ n ∧ n ≤ 9223372036854775807
def Sup.R (s : Sup) : Prop := I64 s.bank ∧ I64 s.epoch ∧ I64 s.denom ∧ I64 s.issued ∧ I64 s.ret ∧ I64 s.dbl ∧ I64 s.exp
def amtB (n : Int) : Bool := decide (0 ≤ n) && decide (n ≤ 4503599627370496)
def validS (s : Sup) : Bool := decide (0 ≤ s.bank) && decide (s.bank < 8) && decide (0 ≤ s.epoch) && decide (s.epoch ≤ 1000000) && decide (0 ≤ s.denom) && decide (s.denom ≤ 16) && amtB s.issued && amtB s.ret && amtB s.dbl && amtB s.exp && decide (s.dbl ≤ s.ret)
def cmpI (a b : Int) : Int := if a < b then -1 else if b < a then 1 else 0
def cmpS (a b : Sup) : Int := if cmpI a.bank b.bank ≠ 0 then cmpI a.bank b.bank else if cmpI a.epoch b.epoch ≠ 0 then cmpI a.epoch b.epoch else cmpI a.denom b.denom
def keyB (a b : Sup) : Bool := decide (a.bank = b.bank) && decide (a.epoch = b.epoch) && decide (a.denom = b.denom)
def supA (n : Nat) (f : Nat → Sup) : AV := .isl 7 n fun i j => atL (Sup.cells (f i)) j
def leftS (s : Sup) : Int := IntKind.wrap .i64 (IntKind.wrap .i64 (IntKind.wrap .i64 (s.issued - s.ret) + s.dbl) - s.exp)
end Go.Sp
namespace Go.Sp
open Go Go.Am
def listB (n : Nat) (f : Nat → Sup) : Bool := Nat.ble n 1000 && (List.range n).all fun i => validS (f i) && (List.range i).all fun k => !keyB (f i) (f k)
theorem list_long {n : Nat} {f : Nat → Sup} (h : (n : Int) > 1000) : listB n f = false := by
  unfold listB
  have : Nat.ble n 1000 = false := by
    cases e : Nat.ble n 1000 with
    | false => rfl
    | true => have := Nat.le_of_ble_eq_true e; omega
  rw [this, Bool.false_and]
theorem list_inv {n : Nat} {f : Nat → Sup} {i : Nat} (hi : i < n) (h : validS (f i) = false) : listB n f = false := by
  unfold listB
  have : ((List.range n).all fun i => validS (f i) && (List.range i).all fun k => !keyB (f i) (f k)) = false := List.all_eq_false.2 ⟨i, List.mem_range.2 hi, by simp [h]⟩
  rw [this, Bool.and_false]
theorem list_ok {n : Nat} {f : Nat → Sup} (hn : ¬ (n : Int) > 1000) (h : ∀ i, i < n → validS (f i) = true ∧ ∀ k, k < i → keyB (f i) (f k) = false) : listB n f = true := by
  unfold listB
  rw [Nat.ble_eq_true_of_le (by omega), Bool.true_and, List.all_eq_true]
  intro i hi
  obtain ⟨h1, h2⟩ := h i (List.mem_range.1 hi)
  rw [h1, Bool.true_and, List.all_eq_true]
  intro k hk
  rw [h2 k (List.mem_range.1 hk)]; rfl
theorem list_spec {n : Nat} {f : Nat → Sup} (h : listB n f = true) : n ≤ 1000 ∧ ∀ i, i < n → validS (f i) = true ∧ ∀ k, k < i → keyB (f i) (f k) = false := by
  unfold listB at h
  rw [Bool.and_eq_true, List.all_eq_true] at h
  refine ⟨Nat.le_of_ble_eq_true h.1, fun i hi => ?_⟩
  have := h.2 i (List.mem_range.2 hi)
  rw [Bool.and_eq_true, List.all_eq_true] at this
  exact ⟨this.1, fun k hk => by simpa using this.2 k (List.mem_range.2 hk)⟩
end Go.Sp

namespace Go.Am
open Go.RowKit

def keepsOps (pins : List Nat) (ops : Array Oper) : Bool :=
  ops.toList.all fun o => (match o.op with | .defer _ => false | .mapUpdate .. => false | _ => true) && (match o.dst with | some d => !memN pins d | none => true)
def keepsC (pins : List Nat) : Code → Bool
  | .skip => true
  | .region _ ops _ => keepsOps pins ops
  | .seq x y => keepsC pins x && keepsC pins y
  | .cond _ x y => keepsC pins x && keepsC pins y
  | .block _ x => keepsC pins x
  | _ => false

def PinIn (pins : List Nat) (a0 a : Act) : Prop := ∀ n, n ∈ pins → a.tmps.getD n undef = a0.tmps.getD n undef

section
def Open (F : Fence) : Prop := F = Fence.wide ∨ ∃ l, F = Fence.wide.inRound l
theorem Open.calls {F : Fence} (h : Open F) {n : Nat} {P : Program} {f : FuncId} {args : Array Value} {w : World} {R : Ending → World → Prop} (hc : Calls P f args w R) : CallsIn F n P f args w R := by
  rcases h with rfl | ⟨l, rfl⟩
  · exact callsIn_wide.2 hc
  · exact CallsIn.inRound l (callsIn_wide.2 hc)
theorem Open.fn {F : Fence} (h : Open F) (f : FuncId) : F.fn f := by rcases h with rfl | ⟨l, rfl⟩ <;> trivial
theorem Open.deep {F : Fence} (h : Open F) : ¬ F.depth.isSome = true := by rcases h with rfl | ⟨l, rfl⟩ <;> (intro h; cases h)
theorem Open.steps {F : Fence} (h : Open F) {P : Program} {m m' : Machine} (hs : Steps P m m') : StepsIn (Machine.fenced P F) P m m' := by rcases h with rfl | ⟨l, rfl⟩ <;> exact stepsIn_wide.2 hs

variable {P : Program} {ops : Array Oper} {Q Q' : Exit → Act → World → Prop} {F : Fence} {n : Nat} {pins : List Nat} {a0 : Act}

theorem upon_in (hF : Open F) {o : Oper} {a : Act} {K K' : Act → World → Prop} (hp : ∀ ch a w, ¬ Q (.panic ch) a w) (hO : ¬ LetsOut Q) (hK : ∀ a' w', (∃ v, a'.tmps = (a.put o.dst v).tmps) → K a' w' → K' a' w') : ∀ (r : Result Next), o.upon P a K Q r → o.uponIn F n P a K' Q' r := by
  intro r h
  cases r with
  | ok x w' =>
    cases x <;> simp only [Oper.upon] at h <;> simp only [Oper.uponIn]
    case value v => exact hK _ _ ⟨v, rfl⟩ h
    case skip => exact hK _ _ ⟨undef, rfl⟩ h
    case defer d => exact hK _ _ ⟨undef, by cases o.dst <;> rfl⟩ h
    case enter f args =>
      refine ⟨fun h => (hF.deep h).elim, hF.calls (h.mono fun e w'' he => ?_)⟩
      cases e with
      | returned v => exact hK _ _ ⟨v, rfl⟩ he
      | panicked ch => exact (hp _ _ _ he).elim
      | outgrown => exact (hO he).elim
    case row row args =>
      refine ⟨fun h => (hF.deep h).elim, fun c cs _ => ?_⟩
      obtain ⟨v, w'', hr, hs⟩ := h c cs
      exact ⟨v, w'', hK _ _ ⟨v, rfl⟩ hr, hF.steps hs⟩
  | halt x w' =>
    cases x <;> simp only [Oper.upon] at h
    exact (hp _ _ _ h).elim

theorem op_in (hF : Open F) {o : Oper} {a : Act} {w : World} {K K' : Act → World → Prop} (hd : ∀ c, o.op ≠ .defer c) (hp : ∀ ch a w, ¬ Q (.panic ch) a w) (hO : ¬ LetsOut Q) (hK : ∀ a' w', (∃ v, a'.tmps = (a.put o.dst v).tmps) → K a' w' → K' a' w')
    (h : o.wp P a w K Q) : o.wpIn F n P a w K' Q' := by
  refine ⟨fun f _ => hF.fn f, ?_⟩
  rw [Oper.semAt_eq _ _ _ hd]
  exact upon_in hF hp hO hK _ h

theorem keeps_upd {pins : List Nat} {ops : Array Oper} (hk : keepsOps pins ops = true) : hasUpd ops = false := by
  unfold hasUpd
  rw [List.any_eq_false]
  intro o ho
  have := List.all_eq_true.1 hk o ho
  rw [Bool.and_eq_true] at this
  have h1 := this.1
  cases hop : o.op <;> simp [hop] at h1 ⊢

theorem keeps_at {i : Nat} {o : Oper} (hk : keepsOps pins ops = true) (ho : ops[i]? = some o) : (∀ c, o.op ≠ .defer c) ∧ ∀ n, n ∈ pins → o.dst ≠ some n := by
  have hm : o ∈ ops.toList := by
    obtain ⟨h1, h2⟩ := Array.getElem?_eq_some_iff.1 ho
    rw [← h2]; simp
  have := List.all_eq_true.1 hk o hm
  rw [Bool.and_eq_true] at this
  obtain ⟨h1, h2⟩ := this
  refine ⟨fun c e => (by rw [e] at h1; cases h1), fun n hn e => ?_⟩
  rw [e] at h2
  simp only [Bool.not_eq_true'] at h2
  rw [memN_iff.2 hn] at h2
  cases h2

theorem pinned_put {o : Oper} {a a' : Act} {v : Value} (hd : ∀ n, n ∈ pins → o.dst ≠ some n) (h : PinIn pins a0 a) (e : a'.tmps = (a.put o.dst v).tmps) : PinIn pins a0 a' := fun n hn => by
  rw [e, ← h n hn]
  cases hdd : o.dst with
  | none => rfl
  | some d => exact getD_put_ne (fun e => hd n hn (by rw [hdd, e]))

theorem ops_in (hF : Open F) (hk : keepsOps pins ops = true) (hp : ∀ ch a w, ¬ Q (.panic ch) a w) (hO : ¬ LetsOut Q) : ∀ (is : List Nat) (a : Act) (w : World), wpOps P ops Q is a w → PinIn pins a0 a →
    wpOpsIn F n P ops (fun e a w => Q e a w ∧ PinIn pins a0 a) is a w := by
  intro is
  induction is with
  | nil => intro a w h hpin; exact ⟨h, hpin⟩
  | cons i rest ih =>
    intro a w h hpin
    simp only [wpOps] at h
    simp only [wpOpsIn]
    cases ho : ops[i]? with
    | none => simp only [ho] at h ⊢; exact ih a w h hpin
    | some o =>
      simp only [ho] at h ⊢
      obtain ⟨h1, h2⟩ := keeps_at hk ho
      by_cases hw : Region.wanted o (yielded ops a.tmps) = true
      · simp only [hw, if_true] at h ⊢
        rcases h with h | h
        · exact op_in hF h1 hp hO (fun a' w' hv hh => let ⟨v, e⟩ := hv; ih a' w' hh (pinned_put h2 hpin e)) h
        · exact (hO h.2).elim
      · simp only [hw, if_false, Bool.false_eq_true] at h ⊢
        exact ⟨fun f _ => hF.fn f, ih _ _ h (pinned_put h2 hpin rfl)⟩

theorem any_in (hF : Open F) (hk : keepsOps pins ops = true) (hp : ∀ ch a w, ¬ Q (.panic ch) a w) (hO : ¬ LetsOut Q) {md : Region.Mode} : ∀ (fuel : Nat) (listed : Array Bool) (a : Act) (w : World), wpAny P md ops Q fuel listed a w → PinIn pins a0 a →
    wpAnyIn F n P md ops (fun e a w => Q e a w ∧ PinIn pins a0 a) fuel listed a w := by
  intro fuel
  induction fuel with
  | zero => intro listed a w h hpin; exact ⟨h.1, h.2, hpin⟩
  | succ fuel ih =>
    intro listed a w h hpin
    refine ⟨fun hr => ⟨h.1 hr, hpin⟩, fun i hi => ?_⟩
    have := h.2 i hi
    unfold wpOp at this
    unfold wpOpIn
    cases ho : ops[i]? with
    | none => simp only [ho] at this ⊢; exact ih _ a w this hpin
    | some o =>
      simp only [ho] at this ⊢
      obtain ⟨h1, h2⟩ := keeps_at hk ho
      by_cases hw : Region.wanted o (yielded ops a.tmps) = true
      · simp only [hw, if_true] at this ⊢
        rcases this with h | h
        · exact op_in hF h1 hp hO (fun a' w' hv hh => let ⟨v, e⟩ := hv; ih _ a' w' hh (pinned_put h2 hpin e)) h
        · exact (hO h.2).elim
      · simp only [hw, if_false, Bool.false_eq_true] at this ⊢
        exact ⟨fun f _ => hF.fn f, ih _ _ _ this (pinned_put h2 hpin rfl)⟩
end

theorem uponIn_in {P : Program} {F : Fence} {n : Nat} {Q Q' : Exit → Act → World → Prop} {o : Oper} {a : Act} {K K' : Act → World → Prop} (hp : ∀ ch a w, ¬ Q (.panic ch) a w) (hO : ¬ LetsOut Q) (hK : ∀ a' w', K a' w' → K' a' w') : ∀ (r : Result Next), o.uponIn F n P a K Q r → o.uponIn F n P a K' Q' r := by
  intro r h
  cases r with
  | ok x w' =>
    cases x <;> simp only [Oper.uponIn] at h ⊢
    case value v => exact hK _ _ h
    case skip => exact hK _ _ h
    case defer d => exact hK _ _ h
    case enter f args => exact ⟨h.1, h.2.mono fun e w'' he => by
      cases e with
      | returned v => exact hK _ _ he
      | panicked ch => exact (hp _ _ _ he).elim
      | outgrown => exact (hO he).elim⟩
    case row row args => exact ⟨h.1, h.2.mono fun v w'' he => hK _ _ he⟩
    case round l f tmps x y => exact ⟨h.1, h.2.mono fun e w'' he => by
      cases e with
      | returned v => exact hK _ _ he
      | panicked ch => exact (hp _ _ _ he).elim
      | outgrown => exact (hO he).elim⟩
  | halt x w' =>
    cases x <;> simp only [Oper.uponIn] at h
    exact (hp _ _ _ h).elim

theorem opsIn_pre {P : Program} {F : Fence} {n : Nat} {ops ops' : Array Oper} {m : Nat} {X : Act → World → Prop} {Q : Exit → Act → World → Prop} {rest : List Nat} (hops : ∀ i, i < m → ops'[i]? = ops[i]?) (hg : ∀ i o, i < m → ops[i]? = some o → o.guard = none)
    (hX : ∀ a w, X a w → wpOpsIn F n P ops Q rest a w) : ∀ (l : List Nat), (∀ i, i ∈ l → i < m) → ∀ (a : Act) (w : World), wpOpsIn F n P ops' (fun e a w => (e = .normal ∧ X a w)) l a w → wpOpsIn F n P ops Q (l ++ rest) a w := by
  intro l
  induction l with
  | nil => intro _ a w h; exact hX a w h.2
  | cons i l ih =>
    intro hl a w h
    have hi := hl i (List.mem_cons_self ..)
    rw [List.cons_append]
    simp only [wpOpsIn] at h ⊢
    rw [hops i hi] at h
    cases ho : ops[i]? with
    | none => simp only [ho] at h ⊢; exact ih (fun k hk => hl k (List.mem_cons_of_mem _ hk)) a w h
    | some o =>
      simp only [ho] at h ⊢
      have hw : ∀ ys, Region.wanted o ys = true := fun ys => by simp [Region.wanted, hg i o hi ho]
      simp only [hw, if_true] at h ⊢
      exact ⟨h.1, uponIn_in (fun _ _ _ h => by cases h.1) (fun ⟨_, _, h⟩ => by cases h.1) (fun a' w' h' => ih (fun k hk => hl k (List.mem_cons_of_mem _ hk)) a' w' h') _ h.2⟩

theorem final_no_panic {K : Ctx} {C : Cfg} {k : AExit → ASt → Tree} : ∀ ch a w, ¬ Final K C k (.panic ch) a w := fun ch a w ⟨_, _, _, h, _⟩ => by cases h
theorem final_no_out {K : Ctx} {C : Cfg} {k : AExit → ASt → Tree} : ¬ LetsOut (Final K C k) := fun ⟨_, _, _, _, _, h, _⟩ => by cases h

theorem runsIn {K : Ctx} {C : Cfg} {pins : List Nat} {a0 : Act} {F : Fence} {n : Nat} (hF : Open F) (hP : C.P = K.P) (hgl : C.gl = K.gl) (hnt : C.nt = K.nt) (hm : K.P.follows .mixedOrders = true) (x : Code) :
    ∀ (k : AExit → ASt → Tree) (s : ASt) (β : Book) (a : Act) (w : World), keepsC pins x = true → (run C x k s).wp C.P C.gl (Le C.ng) → Sim K β s a w → PinIn pins a0 a →
      x.wpIn F n K.P (fun e a w => Final K C k e a w ∧ PinIn pins a0 a) a w := by
  induction x with
  | skip => intro k s β a w _ h hs hp; exact wpIn_skip ⟨⟨β, s, .normal, rfl, hs, h⟩, hp⟩
  | region id ops draw =>
    intro k s β a w hk h hs hp
    simp only [run, keeps_upd hk, cond_false] at h
    cases hd : dstsOk ops with
    | false => simp only [hd, cond_false] at h; exact h.elim
    | true =>
      simp only [hd, cond_true] at h
      obtain ⟨h1, h2⟩ := region_core hP hgl hnt hd h hs (Q := Final K C k) (fun β' r a' w' hr hX => ⟨β', _, .normal, rfl, hr.toA, hX⟩)
      cases draw with
      | false => exact wpIn_region (ops_in hF hk final_no_panic final_no_out _ a w (h1 rfl) hp)
      | true => exact wpIn_region_any hm (any_in hF hk final_no_panic final_no_out _ _ a _ (h2 rfl) hp)
  | seq x y ihx ihy =>
    intro k s β a w hk h hs hp
    simp only [keepsC, Bool.and_eq_true] at hk
    refine wpIn_seq (wpIn_mono (ihx _ s β a w hk.1 h hs hp) ?_)
    rintro e a' w' ⟨⟨β', s', ae, he, hs', hk'⟩, hp'⟩
    cases e <;> simp only [exitOf, reduceCtorEq, Option.some.injEq] at he
    · subst he; exact ihy k s' β' a' w' hk.2 hk' hs' hp'
    · subst he; exact ⟨⟨β', s', _, rfl, hs', hk'⟩, hp'⟩
    · subst he; exact ⟨⟨β', s', _, rfl, hs', hk'⟩, hp'⟩
  | cond c x y ihx ihy =>
    intro k s β a w hk h hs hp
    simp only [keepsC, Bool.and_eq_true] at hk
    simp only [run] at h
    split at h
    · rename_i b hb
      have hrel : Rel β w (ev K.gl s.fr c) (a.eval c) := by
        have := rel_ev (hs.toR #[]) (x := c) (fun t _ => rfl)
        exact this
      rw [← hgl, hb] at hrel
      have hv := rel_bool_inv hrel
      exact wpIn_cond_split hv (fun ht => ihx k s β a w hk.1 (h.1 ht) hs hp) (fun hf => ihy k s β a w hk.2 (h.2 hf) hs hp)
    · exact h.elim
  | block id x ih =>
    intro k s β a w hk h hs hp
    refine wpIn_block (wpIn_mono (ih _ s β a w hk h hs hp) ?_)
    rintro e a' w' ⟨⟨β', s', ae, he, hs', hk'⟩, hp'⟩
    cases e <;> simp only [exitOf, reduceCtorEq, Option.some.injEq] at he
    · subst he; exact ⟨⟨β', s', _, rfl, hs', hk'⟩, hp'⟩
    · rename_i j
      subst he
      simp only [Exit.inBlock]
      by_cases e : j = id
      · subst e
        rw [if_pos rfl]
        simp only [Nat.beq_refl, cond_true] at hk'
        exact ⟨⟨β', s', .normal, rfl, hs', hk'⟩, hp'⟩
      · rw [if_neg e]
        have hb : Nat.beq j id = false := by
          cases hb : Nat.beq j id with
          | false => rfl
          | true => exact absurd (Nat.eq_of_beq_eq_true hb) e
        simp only [hb, cond_false] at hk'
        exact ⟨⟨β', s', .leave j, rfl, hs', hk'⟩, hp'⟩
    · subst he; exact ⟨⟨β', s', _, rfl, hs', hk'⟩, hp'⟩
  | _ => intro k s β a w hk; cases hk


def CalmIn (β : Book) (w W : World) : Prop := w.heap.size ≤ W.heap.size ∧ (∀ b, b < w.heap.size → β.free b → W.heap[b]? = w.heap[b]?) ∧ ∀ b, b < w.heap.size → W.shape? b = w.shape? b
def Stays (β : Book) (w W W' : World) : Prop := CalmIn β w W → CalmIn β w W'

def Iter (P : Program) (gl : Globs) (gf : FuncId) (lb : List AV) (n : Nat) (xs : Fin n → AV) : Prop :=
  Enters P gf ∧ ∀ (β : Book) (w : World) (vs : Array Value), (∀ b, β.F b → b < w.heap.size) → (∀ id b k mu, β.m id = some (.lives b k mu) → b < w.heap.size) → GlobB gl β w → Rels β w lb vs →
    ∃ ys : Fin n → Value, (∀ i, Rel β w (xs i) (ys i)) ∧ SeqStopsK Fence.wide 8 P gf vs (fun i => #[ys i]) (Stays β w) (fun l => l = List.finRange n) (fun _ => True) n w

def roundT (P : Program) (gl : Globs) (own : FuncId → Option (List Bool)) (ng nt : Nat) (c : Code) (s s' : ASt) : Tree :=
  run ⟨P, gl, nt, own, ng⟩ c (fun e t => match e with | .normal => .again t (fun u => Le ng u s') | _ => .bad "round") s
def Round (P : Program) (gl : Globs) (own : FuncId → Option (List Bool)) (ng nt : Nat) (c : Code) (s s' : ASt) : Prop := (roundT P gl own ng nt c s s').wp P gl (Le ng)

theorem round_sk {P : Program} {gl : Globs} {own : FuncId → Option (List Bool)} {ng nt : Nat} {c : Code} {s s' : ASt} (sk : Sk) (hu : unroll ng (roundT P gl own ng nt c s s') sk = sk) (h : sk.ok P gl ng) : Round P gl own ng nt c s s' :=
  unroll_ok sk _ hu h
theorem k_againR {P : Program} {gl : Globs} {ng : Nat} {s' : ASt} {ns π : List Nat} {vals : List AV} {os : List (Option Ob)} (h : ∀ s, Desc ng s ns π vals os → Le ng s s') : (Sk.again (fun u => Le ng u s') ns π vals os).ok P gl ng := h

theorem lookZ_none {ns : List Nat} {vs : List AV} {n : Nat} (h : n ∉ ns) : lookZ ns vs n = .junk := by
  induction ns generalizing vs with
  | nil => rfl
  | cons m ns ih =>
    cases vs with
    | nil => rfl
    | cons v vs =>
      rw [List.mem_cons, not_or] at h
      have hb : Nat.beq m n = false := by
        cases hb : Nat.beq m n with
        | false => rfl
        | true => exact absurd (Nat.eq_of_beq_eq_true hb).symm h.1
      simp only [lookZ, hb, cond_false]
      exact ih h.2

def calmB (β : Book) (w : World) : Book := ⟨fun _ => none, fun b => b < w.heap.size ∧ ¬ β.free b⟩
theorem Rel.calm {β : Book} {w W : World} {a : AV} {v : Value} (h : Rel β w a v) (hc : Cl a) (hW : CalmIn β w W) : Rel (calmB β w) W a v := by
  let B1 : Book := ⟨fun _ => none, fun b => ¬ β.free b⟩
  have f1 : ∀ b, β.free b → B1.free b := fun b h => ⟨fun h' => h' h, fun id m h => by cases h⟩
  have hk : Keeps B1 w (calmB β w) W := by
    refine ⟨fun id o h => (by cases h), fun b hb hfb => hW.2.1 b hb (Classical.byContradiction fun h => hfb.1 h), fun b hb hfb => ⟨fun h => hfb.1 h.2, fun id m h => by cases h⟩, fun b el sz h => ?_⟩
    rw [hW.2.2 b (lt_of_shape h)]; exact h
  exact (h.rebook f1 hc).keep hk
theorem GlobAt.calm {β : Book} {w W : World} {g m : Nat} {f : Nat → AV} (h : GlobAt β w g m f) (hc : Cl (.ipt m f)) (hW : CalmIn β w W) : GlobAt (calmB β w) W g m f :=
  ⟨h.rel.calm hc hW, let ⟨el, e⟩ := h.size; ⟨el, by rw [hW.2.2 g (lt_of_shape e)]; exact e⟩⟩

def calmK (P : Program) (gl : Globs) (nt : Nat) (β : Book) (w W : World) : Ctx := ⟨P, gl, W.heap.size, W, nt, (calmB β w).F, fun _ => False, fun _ => none, true⟩

theorem Sim.calm {P : Program} {gl : Globs} {nt : Nat} {β : Book} {w W : World} {ns : List Nat} {vs : List AV} {a : Act} (hg : GlobB gl β w) (hW : CalmIn β w W) (hsz : a.tmps.size = nt) (hd : a.defers = [])
    (hv : ∀ (k n : Nat) v, ns[k]? = some n → vs[k]? = some v → Rel (calmB β w) W v (a.tmps.getD n undef)) : Sim (calmK P gl nt β w W) (calmB β w) (mkSt ns vs []) a W := by
  refine ⟨fun n => ?_, hsz, by rw [hd]; exact Marks.nil _ _, fun id o h => (by simp [mkSt] at h), fun _ _ _ _ _ _ _ h => (by cases h), fun _ _ => rfl, fun _ _ _ _ h => (by cases h), fun _ _ h => (by cases h), rfl, fun b hb => ⟨Nat.lt_of_lt_of_le hb.1 hW.1, fun h => h⟩,
    Kept.refl _ _ _, Nat.le_refl _, fun g m h hgl => ((hg g m h hgl).calm ?_ hW)⟩
  · show Rel _ _ (lookZ ns vs n) _
    clear hg hW hsz hd
    induction ns generalizing vs with
    | nil => exact .junk
    | cons m ns ih =>
      cases vs with
      | nil => exact .junk
      | cons v vs =>
        simp only [lookZ]
        cases hb : Nat.beq m n with
        | true =>
          have := Nat.eq_of_beq_eq_true hb
          subst this
          exact hv 0 m v rfl rfl
        | false => exact ih (fun k n v hn hv' => hv (k + 1) n v (by simpa using hn) (by simpa using hv'))
  · obtain ⟨_, _, _, _, _, _, _, _, hcl, _⟩ := rel_ipt_inv (hg g m h hgl).rel
    exact .ipt hcl

theorem Round.in {F : Fence} {n : Nat} {K : Ctx} {own : FuncId → Option (List Bool)} {ng : Nat} {c : Code} {s s' : ASt} {β : Book} {a : Act} {w : World} {pins : List Nat} (hr : Round K.P K.gl own ng K.nt c s s') (hF : Open F) (hk : keepsC pins c = true)
    (hng : ∀ id, ng ≤ id → K.b0 id = none) (hm : K.P.follows .mixedOrders = true) (hs : Sim K β s a w) : c.wpIn F n K.P (fun e a' w' => e = .normal ∧ (∃ β', Sim K β' s' a' w') ∧ PinIn pins a a') a w := by
  refine wpIn_mono (runsIn (C := ⟨K.P, K.gl, K.nt, own, ng⟩) (pins := pins) (a0 := a) hF rfl rfl rfl hm c _ s β a w hk hr hs (fun _ _ => rfl)) ?_
  rintro e a' w' ⟨⟨β', t, ae, he, hs', hk'⟩, hp⟩
  cases e <;> simp only [exitOf, reduceCtorEq, Option.some.injEq] at he
  · subst he; exact ⟨rfl, hk' K β' a' w' hng hs', hp⟩
  · subst he; exact hk'.elim
  · subst he; exact hk'.elim

theorem Round.ops {F : Fence} {n : Nat} {K : Ctx} {own : FuncId → Option (List Bool)} {ng id : Nat} {ops : Array Oper} {s s' : ASt} {β : Book} {a : Act} {w : World} {pins : List Nat} (hr : Round K.P K.gl own ng K.nt (.region id ops false) s s') (hF : Open F) (hk : keepsOps pins ops = true)
    (hng : ∀ id, ng ≤ id → K.b0 id = none) (hs : Sim K β s a w) : wpOpsIn F n K.P ops (fun e a' w' => e = .normal ∧ (∃ β', Sim K β' s' a' w') ∧ PinIn pins a a') (List.range ops.size) a w := by
  have h : (run ⟨K.P, K.gl, K.nt, own, ng⟩ (.region id ops false) (fun e t => match e with | .normal => .again t (fun u => Le ng u s') | _ => .bad "round") s).wp K.P K.gl (Le ng) := hr
  simp only [run, keeps_upd hk, cond_false] at h
  cases hd : dstsOk ops with
  | false => simp only [hd, cond_false] at h; exact h.elim
  | true =>
    simp only [hd, cond_true] at h
    have := (region_core (K := K) (C := ⟨K.P, K.gl, K.nt, own, ng⟩) rfl rfl rfl hd h hs (Q := fun e a w => e = .normal ∧ ∃ β', Sim K β' s' a w) (fun β' r a' w' hr hX => ⟨rfl, hX K β' a' w' hng hr.toA⟩)).1 rfl
    have h2 := ops_in (a0 := a) (pins := pins) (n := n) hF hk (fun _ _ _ h => by cases h.1) (fun ⟨_, _, h⟩ => by cases h.1) _ a w this (fun _ _ => rfl)
    have e : (fun e a' w' => (e = Exit.normal ∧ ∃ β', Sim K β' s' a' w') ∧ PinIn pins a a') = (fun e a' w' => e = .normal ∧ (∃ β', Sim K β' s' a' w') ∧ PinIn pins a a') := funext fun _ => funext fun _ => funext fun _ => propext and_assoc
    rw [e] at h2
    exact h2

def allMu (obs : List (Option Ob)) : Bool := obs.all fun o => match o with | some o => o.mu | none => false

theorem allMu_spec {obs : List (Option Ob)} (h : allMu obs = true) {k : Nat} (hk : k < obs.length) : ∃ o, obs.getD k none = some o ∧ o.mu = true := by
  have := List.all_eq_true.1 h obs[k] (List.getElem_mem hk)
  rw [List.getD_eq_getElem?_getD, List.getElem?_eq_getElem hk]
  cases ho : obs[k] with
  | none => rw [ho] at this; cases this
  | some o => rw [ho] at this; exact ⟨o, by simp, this⟩

theorem NM.atL {l : List AV} (h : ∀ v, v ∈ l → NM v) (j : Nat) : NM (atL l j) := by
  unfold Am.atL
  rw [List.getD_eq_getElem?_getD]
  cases hj : l[j]? with
  | none => exact .junk
  | some x => exact h x (List.mem_of_getElem? hj)
def NML : List AV → Prop
  | [] => True
  | v :: l => NM v ∧ NML l
theorem NML.spec {l : List AV} (h : NML l) : ∀ v, v ∈ l → NM v := by
  induction l with
  | nil => intro v hv; cases hv
  | cons x l ih => intro v hv; rcases List.mem_cons.1 hv with rfl | hv; (· exact h.1); (· exact ih h.2 v hv)
theorem NML.atL {l : List AV} (h : NML l) (j : Nat) : NM (Am.atL l j) := NM.atL h.spec j
def NMB (o : Ob) : Prop := ∀ i j, i < o.n → j < o.es → NM (o.f i j)
def NMO : List (Option Ob) → Prop
  | [] => True
  | none :: l => NMO l
  | some o :: l => NMB o ∧ NMO l
theorem NMO.spec {l : List (Option Ob)} (h : NMO l) : ∀ (k : Nat) o, l[k]? = some (some o) → NMB o := by
  induction l with
  | nil => intro k o hk; simp at hk
  | cons x l ih =>
    intro k o hk
    cases x with
    | none =>
      cases k with
      | zero => simp at hk
      | succ k => exact ih h k o (by simpa using hk)
    | some y =>
      cases k with
      | zero => simp at hk; subst hk; exact h.1
      | succ k => exact ih h.2 k o (by simpa using hk)
theorem NMS.of {ns : List Nat} {vs : List AV} {obs : List (Option Ob)} (h1 : NML vs) (h2 : NMO obs) : NMS (mkSt ns vs obs) := by
  refine ⟨fun n => ?_, fun id o ho => ?_⟩
  · show NM (lookZ ns vs n)
    induction ns generalizing vs with
    | nil => exact .junk
    | cons m ns ih =>
      cases vs with
      | nil => exact .junk
      | cons v vs =>
        simp only [lookZ]
        cases Nat.beq m n with
        | true => exact h1.1
        | false => exact ih h1.2
  · have ho : (obs[id]?).getD none = some o := by simpa [mkSt, List.getD_eq_getElem?_getD] using ho
    cases hk : obs[id]? with
    | none => rw [hk] at ho; cases ho
    | some x => rw [hk] at ho; exact h2.spec id o (by rw [hk]; exact congrArg some ho)

end Go.Am

namespace Go.Am
structure Bx : Type 1 where
  l : List (List AV)
structure OpqD : Type 1 where
  c : Code
  ns : List Nat
  vs : List AV
  obs : List (Option Ob)
  s' : ASt
structure LoopF : Type 1 where
  ι : Type
  ch : ι → List (Nat × AV)
  obs : ι → List (Nat × Option Ob)
  m : ι → Nat
  i0 : ι
def LoopF.st (α : Type) (p : α → Prop) (ch : α → List (Nat × AV)) (obs : α → List (Nat × Option Ob)) (m : α → Nat) (a : α) (h : p a) : LoopF :=
  ⟨{x : α // p x}, fun x => ch x.1, fun x => obs x.1, fun x => m x.1, ⟨a, h⟩⟩
inductive FR : Type 1 where
  | lst (l : List (List AV))
  | row (l : List AV)
  | fn (a : AV)
  | cat (n : Nat) (f g : FR)
  | put (k : Nat) (x : List AV) (f : FR)
inductive FO : Type 1 where
  | no
  | ob (es n : Nat) (mu : Bool) (r : FR)
structure FOs : Type 1 where
  l : List FO
end Go.Am

namespace Go.Am
open Go.RowKit

theorem Sim.grow {K : Ctx} {β : Book} {s : ASt} {a : Act} {w w' : World} (hs : Sim K β s a w) (hb : Below w.heap.size w w') : Sim K β s a w' := by
  have hk : Keeps β w β w' := keeps_ext hb
  have hkp : Kept K.B K.G w w' := (Kept.ofBelow K.G hb).mono hs.hB (fun _ _ h => h)
  exact ⟨fun n => (hs.slot n).keep hk, hs.size, hs.defers.kept hkp, fun id o ho => (hs.heap id o ho).imp (fun ⟨b, h1, h2⟩ => ⟨b, h1, h2.keep hk (hb.block b (hs.live id b _ _ h1).2)⟩) (fun h => h), hs.inj, hs.fresh,
    fun id b n mu h => ⟨(hs.live id b n mu h).1, Nat.lt_of_lt_of_le (hs.live id b n mu h).2 hb.size⟩, hs.giv, hs.bF, hs.hF, hs.kept.trans hkp, Nat.le_trans hs.hB hb.size, fun g m h hgl => (hs.glob g m h hgl).keep hk⟩

theorem Sim.slots {K : Ctx} {β : Book} {s s' : ASt} {a a' : Act} {w : World} (hs : Sim K β s a w) (hH : s'.H = s.H) (hc : s'.c = s.c) (hsz : a'.tmps.size = a.tmps.size) (hd : a'.defers = a.defers) (h : ∀ n, Rel β w (s'.fr n) (a'.tmps.getD n undef)) : Sim K β s' a' w :=
  ⟨h, hsz.trans hs.size, by rw [hd]; exact hs.defers, fun id o ho => hs.heap id o (hH ▸ ho), hs.inj, fun id h => hs.fresh id (hc ▸ h), hs.live, hs.giv, hs.bF, hs.hF, hs.kept, hs.hB, hs.glob⟩

theorem lookZ_cons_ne {m n : Nat} {ns : List Nat} {v : AV} {vs : List AV} (h : m ≠ n) : lookZ (m :: ns) (v :: vs) n = lookZ ns vs n := by
  have hb : Nat.beq m n = false := by
    cases hb : Nat.beq m n with
    | false => rfl
    | true => exact absurd (Nat.eq_of_beq_eq_true hb) h
  simp only [lookZ, hb, cond_false]
theorem lookZ_cons_eq {m : Nat} {ns : List Nat} {v : AV} {vs : List AV} : lookZ (m :: ns) (v :: vs) m = v := by simp [lookZ]

theorem getD_put_eq {a : Act} {d : Nat} {v : Value} (h : d < a.tmps.size) : (a.put (some d) v).tmps.getD d undef = v := by simp [Act.put, Array.getD_eq_getD_getElem?, h]

theorem Sim.put {K : Ctx} {β : Book} {ns : List Nat} {vs : List AV} {obs : List (Option Ob)} {a : Act} {w : World} {d : Nat} {v : Value} {x : AV} (hs : Sim K β (mkSt ns vs obs) a w) (hdt : d < K.nt) (hr : Rel β w x v) : Sim K β (mkSt (d :: ns) (x :: vs) obs) (a.put (some d) v) w := by
  have hdt' : d < a.tmps.size := by rw [hs.size]; exact hdt
  refine hs.slots rfl rfl (by simp [Act.put]) rfl (fun n => ?_)
  show Rel β w (lookZ (d :: ns) (x :: vs) n) _
  by_cases h : d = n
  · subst h
    rw [lookZ_cons_eq]
    rw [getD_put_eq hdt']; exact hr
  · rw [lookZ_cons_ne h, getD_put_ne (Ne.symm h)]
    exact hs.slot n

theorem Sim.drop {K : Ctx} {β : Book} {ns : List Nat} {vs : List AV} {obs : List (Option Ob)} {a : Act} {w : World} {d : Nat} {x : AV} (hd : d ∉ ns) (hs : Sim K β (mkSt (d :: ns) (x :: vs) obs) a w) : Sim K β (mkSt ns vs obs) a w := by
  refine hs.slots rfl rfl rfl rfl (fun n => ?_)
  show Rel β w (lookZ ns vs n) _
  by_cases h : d = n
  · subst h; rw [lookZ_none hd]; exact .junk
  · have := hs.slot n
    have e : (mkSt (d :: ns) (x :: vs) obs).fr n = lookZ ns vs n := lookZ_cons_ne h
    rw [e] at this
    exact this

theorem SetIn.put {P : Program} {w : World} {b n : Nat} {M : Int → Bool} {t k e : TypeId} {A : Int} (h : SetIn w b n M) (ht : P.underlying t = some (.map k e)) (hk : P.underlying k = some (.int .i64)) (he : P.underlying e = some .bool) (hn : n < maxLen) (hA : (Lit.int .i64 A).wf = true) :
    ∃ w', (Instr.mapUpdate t (.map (some b)) (.int .i64 A) (.bool true)).run P w = .ok () w' ∧ SetIn w' b (n + 1) (fun y => M y || decide (y = A)) ∧ w.grownBy w' (some b) := by
  obtain ⟨P', k', e', D, g1, g2, g3, g4⟩ := h
  have own := plain_any g1 g2 hk he g3
  obtain ⟨w', r1, r2, r3⟩ := own.update (Maps.int_keyed hk) ht hn (Maps.keyOf_int_mk hk hA) (plainElem_bool he true)
  refine ⟨w', r1, ⟨P, k, e, _, hk, he, r2, fun x hx => ?_⟩, r3⟩
  by_cases hxa : x = A
  · subst hxa
    rw [Maps.atKey_put_same (own.isMap) ((Maps.int_keyed hk).key (Maps.keyOf_int_mk hk hA))]
    simp
  · rw [Maps.atKey_put_other (fun e => hxa (by injection e)), g4 x hx]
    simp [hxa]


theorem Round.wp {K : Ctx} {own : FuncId → Option (List Bool)} {ng : Nat} {c : Code} {s s' : ASt} {β : Book} {a : Act} {w : World} {pins : List Nat} {Q : Exit → Act → World → Prop} (hr : Round K.P K.gl own ng K.nt c s s') (hk : keepsC pins c = true) (hng : ∀ id, ng ≤ id → K.b0 id = none) (hm : K.P.follows .mixedOrders = true) (hs : Sim K β s a w)
    (hQ : ∀ β' a' w', Sim K β' s' a' w' → PinIn pins a a' → Q .normal a' w') : c.wp K.P Q a w := by
  refine wp_mono (wpIn_wide (n := 9).1 (Round.in (F := Fence.wide) hr (.inl rfl) hk hng hm hs)) ?_
  rintro e a' w' ⟨rfl, ⟨β', hs'⟩, hp⟩
  exact hQ β' a' w' hs' hp

end Go.Am

namespace Go.Proofs.YtbmdmoknnlhdoaaGreatDoor.U
open Go Go.Am Go.Sp
set_option maxRecDepth 100000

theorem mixed : Tryz.prog.follows .mixedOrders = true := by kernel_rfl
def ow0 : FuncId → Option (List Bool) := fun _ => none
def owR (n : Nat) : FuncId → Option (List Bool) := fun f => bif Nat.beq f 999999999 then some (List.replicate n true) else none
def gl0 : Globs := fun _ => none

theorem nan_c (n : Int) : Pure Tryz.prog gl0 195 [.int .i64 n] (.bool false) := by
  refine pure_sk (own := ow0) Tryz.func195 (by kernel_rfl) mixed (by kernel_rfl)
    (.out (AV.bool (n != n)) [] (AV.bool false) [])
    (by kernel_rfl) ?_
  exact k_out (Ent.of_eq (by first | rfl | simp_all))
theorem cmpI_c (a b : Int) : Pure Tryz.prog gl0 153 [.int .i64 a, .int .i64 b] (.int .i64 (cmpI a b)) := by
  refine pure_sk (own := ow0) Tryz.func153 (by kernel_rfl) mixed (by kernel_rfl)
    (.sc (true) 195 ([Zi a]) (AV.bool false) (.sc (true) 195 ([Zi b]) (AV.bool false) (.ff (.ff (.br (decide (a < b)) (.out (Zi (-1)) [] (Zi (cmpI a b)) []) (.br (decide (a > b)) (.out (Zi 1) [] (Zi (cmpI a b)) []) (.out (Zi 0) [] (Zi (cmpI a b)) [])))))))
    (by kernel_rfl) ?_
  refine k_sc (nan_c (a)) ?_
  refine k_sc (nan_c (b)) ?_
  refine k_ff ?_
  refine k_ff ?_
  refine k_br (fun h4 => ?_) (fun h4 => ?_)
  · have g4 := cnd_dec_t h4
    exact k_out (Ent.of_eq (congrArg (AV.int _) (by unfold cmpI; split <;> (try split) <;> omega)))
  · have g4 := cnd_dec_f h4
    refine k_br (fun h6 => ?_) (fun h6 => ?_)
    · have g6 := cnd_dec_t h6
      exact k_out (Ent.of_eq (congrArg (AV.int _) (by unfold cmpI; split <;> (try split) <;> omega)))
    · have g6 := cnd_dec_f h6
      exact k_out (Ent.of_eq (congrArg (AV.int _) (by unfold cmpI; split <;> (try split) <;> omega)))
theorem or_c (a b c : Int) : Pure Tryz.prog gl0 152 [.isl 1 3 fun i j => atL (List.getD [[AV.int .i64 a], [AV.int .i64 b], [AV.int .i64 c]] i []) j] (.int .i64 (if a ≠ 0 then a else if b ≠ 0 then b else c)) := by
  refine pure_sk (own := (owR 4)) Tryz.func152 (by kernel_rfl) mixed (by kernel_rfl)
    (.tt (.req ((0 : Int) ≤ (0 : Int) ∧ (0 : Int) < (↑(3) : Int)) (.br (a != (0 : Int)) (.out (Zi a) [] (Zi (if a ≠ (0 : Int) then a else if b ≠ (0 : Int) then b else c)) []) (.tt (.req ((0 : Int) ≤ IntKind.wrap IntKind.i64 ((0 : Int) + (1 : Int)) ∧ IntKind.wrap IntKind.i64 ((0 : Int) + (1 : Int)) < (↑(3) : Int)) (.br (b != (0 : Int)) (.out (Zi b) [] (Zi (if a ≠ (0 : Int) then a else if b ≠ (0 : Int) then b else c)) []) (.tt (.req ((0 : Int) ≤ IntKind.wrap IntKind.i64 (IntKind.wrap IntKind.i64 ((0 : Int) + (1 : Int)) + (1 : Int)) ∧ IntKind.wrap IntKind.i64 (IntKind.wrap IntKind.i64 ((0 : Int) + (1 : Int)) + (1 : Int)) < (↑(3) : Int)) (.br (c != (0 : Int)) (.out (Zi c) [] (Zi (if a ≠ (0 : Int) then a else if b ≠ (0 : Int) then b else c)) []) (.ff (.out (Zi 0) [] (Zi (if a ≠ (0 : Int) then a else if b ≠ (0 : Int) then b else c)) [])))))))))))
    (by kernel_rfl) ?_
  refine k_tt ?_
  refine k_req (by decide) ?_
  refine k_br (fun h2 => ?_) (fun h2 => ?_)
  · have g2 := cnd_bne_t h2
    exact k_out (Ent.of_eq (congrArg (AV.int _) (by simp_all)))
  · have g2 := cnd_bne_f h2
    refine k_tt ?_
    refine k_req (by decide) ?_
    refine k_br (fun h6 => ?_) (fun h6 => ?_)
    · have g6 := cnd_bne_t h6
      exact k_out (Ent.of_eq (congrArg (AV.int _) (by simp_all)))
    · have g6 := cnd_bne_f h6
      refine k_tt ?_
      refine k_req (by decide) ?_
      refine k_br (fun h10 => ?_) (fun h10 => ?_)
      · have g10 := cnd_bne_t h10
        exact k_out (Ent.of_eq (congrArg (AV.int _) (by simp_all)))
      · have g10 := cnd_bne_f h10
        refine k_ff ?_
        exact k_out (Ent.of_eq (congrArg (AV.int _) (by simp_all)))
theorem compare_c (a b : Sup) : Pure Tryz.prog gl0 103 [.agg a.cells, .agg b.cells] (.int .i64 (cmpS a b)) := by
  refine pure_sk (own := ow0) Tryz.func103 (by kernel_rfl) mixed (by kernel_rfl)
    (.sc (true) 153 ([Zi a.1, Zi b.1]) (Zi (cmpI a.1 b.1)) (.sc (true) 153 ([Zi a.2, Zi b.2]) (Zi (cmpI a.2 b.2)) (.sc (true) 153 ([Zi a.3, Zi b.3]) (Zi (cmpI a.3 b.3)) (.sc (true) 152 ([AV.isl (1) (3) fun (r k : Nat) => atL (List.getD [[Zi (cmpI a.1 b.1)], [Zi (cmpI a.2 b.2)], [Zi (cmpI a.3 b.3)]] (r + 0) []) k]) (Zi (if cmpI a.1 b.1 ≠ (0 : Int) then cmpI a.1 b.1 else if cmpI a.2 b.2 ≠ (0 : Int) then cmpI a.2 b.2 else cmpI a.3 b.3)) (.out (Zi (if cmpI a.1 b.1 ≠ (0 : Int) then cmpI a.1 b.1 else if cmpI a.2 b.2 ≠ (0 : Int) then cmpI a.2 b.2 else cmpI a.3 b.3)) [] (Zi (cmpS a b)) [])))))
    (by kernel_rfl) ?_
  refine k_sc (cmpI_c (a.1) (b.1)) ?_
  refine k_sc (cmpI_c (a.2) (b.2)) ?_
  refine k_sc (cmpI_c (a.3) (b.3)) ?_
  refine k_sc (or_c (cmpI a.1 b.1) (cmpI a.2 b.2) (cmpI a.3 b.3)) ?_
  exact k_out (Ent.of_eq (congrArg (AV.int _) (by unfold cmpS; rfl)))
theorem outst_c (s : Sup) : Pure Tryz.prog gl0 63 [.agg s.cells] (.int .i64 (leftS s)) := by
  refine pure_sk (own := ow0) Tryz.func63 (by kernel_rfl) mixed (by kernel_rfl)
    (.out (Zi (IntKind.wrap IntKind.i64 (IntKind.wrap IntKind.i64 (IntKind.wrap IntKind.i64 (s.4 - s.5) + s.6) - s.7))) [] (Zi (leftS s)) [])
    (by kernel_rfl) ?_
  exact k_out (Ent.of_eq (by first | rfl | simp_all))

theorem ipt_ext {os : List (Option Ob)} {m : Nat} {f g : Nat → AV} (h : ∀ j, j < m → f j = g j) : Ent os (.ipt m f) (.ipt m g) := fun β w v _ hr => by
  obtain ⟨b, off, vals, rfl, hm, hb, hc, hr, hcl, ho⟩ := rel_ipt_inv hr
  exact .ipt vals hm hb hc ho (fun j hj => by rw [← h j hj]; exact hr j hj) (fun j hj => by rw [← h j hj]; exact hcl j hj)
theorem amounts_p (s : Sup) : Pure Tryz.prog gl0 104 [.ipt 7 fun k => atL s.cells k] (.agg [.ipt 1 fun k => atL [AV.int .i64 s.issued] k, .ipt 1 fun k => atL [AV.int .i64 s.ret] k, .ipt 1 fun k => atL [AV.int .i64 s.dbl] k, .ipt 1 fun k => atL [AV.int .i64 s.exp] k]) := by
  refine pure_sk (own := ow0) Tryz.func104 (by kernel_rfl) mixed (by kernel_rfl)
    (.out (AV.agg [AV.ipt (1) fun (k : Nat) => atL (Sup.cells s) (3 + k), AV.ipt (1) fun (k : Nat) => atL (Sup.cells s) (4 + k), AV.ipt (1) fun (k : Nat) => atL (Sup.cells s) (5 + k), AV.ipt (1) fun (k : Nat) => atL (Sup.cells s) (6 + k)]) [] (AV.agg [AV.ipt (1 : Nat) fun (k : Nat) => atL [Zi (Sup.issued s)] k, AV.ipt (1 : Nat) fun (k : Nat) => atL [Zi (Sup.ret s)] k, AV.ipt (1 : Nat) fun (k : Nat) => atL [Zi (Sup.dbl s)] k, AV.ipt (1 : Nat) fun (k : Nat) => atL [Zi (Sup.exp s)] k]) [])
    (by kernel_rfl) ?_
  exact k_out (Ent.agg ⟨ipt_ext fun j hj => by obtain rfl := Nat.lt_one_iff.1 hj; rfl, ipt_ext fun j hj => by obtain rfl := Nat.lt_one_iff.1 hj; rfl, ipt_ext fun j hj => by obtain rfl := Nat.lt_one_iff.1 hj; rfl, ipt_ext fun j hj => by obtain rfl := Nat.lt_one_iff.1 hj; rfl, trivial⟩)
theorem amt_t {n : Int} (h : ¬ n < 0 ∧ ¬ n > 4503599627370496) : amtB n = true := by unfold amtB; rw [decide_eq_true (by omega), decide_eq_true (by omega)]; rfl
theorem amt_f {n : Int} (h : n < 0 ∨ n > 4503599627370496) : amtB n = false := by
  unfold amtB
  by_cases c : 0 ≤ n
  · rw [decide_eq_true c, decide_eq_false (by omega)]; rfl
  · rw [decide_eq_false c]; rfl
theorem valid_c (s : Sup) : Pure Tryz.prog gl0 64 [.agg s.cells] (.bool (validS s)) := by
  refine pure_sk (own := (owR 5)) Tryz.func64 (by kernel_rfl) mixed (by kernel_rfl)
    (.dc (true) 104 ([AV.ipt (7) fun (k : Nat) => atL (Sup.cells s) k]) (AV.agg [AV.ipt (1 : Nat) fun (k : Nat) => atL [Zi (Sup.issued s)] k, AV.ipt (1 : Nat) fun (k : Nat) => atL [Zi (Sup.ret s)] k, AV.ipt (1 : Nat) fun (k : Nat) => atL [Zi (Sup.dbl s)] k, AV.ipt (1 : Nat) fun (k : Nat) => atL [Zi (Sup.exp s)] k]) (.tt (.req ((0 : Int) ≤ (0 : Int) ∧ (0 : Int) < (↑(4) : Int)) (.br (decide (s.4 < (0 : Int)) || decide (s.4 > (4503599627370496 : Int))) (.out (AV.bool false) [] (AV.bool (validS s)) []) (.tt (.req ((0 : Int) ≤ IntKind.wrap IntKind.i64 ((0 : Int) + (1 : Int)) ∧ IntKind.wrap IntKind.i64 ((0 : Int) + (1 : Int)) < (↑(4) : Int)) (.br (decide (s.5 < (0 : Int)) || decide (s.5 > (4503599627370496 : Int))) (.out (AV.bool false) [] (AV.bool (validS s)) []) (.tt (.req ((0 : Int) ≤ IntKind.wrap IntKind.i64 (IntKind.wrap IntKind.i64 ((0 : Int) + (1 : Int)) + (1 : Int)) ∧ IntKind.wrap IntKind.i64 (IntKind.wrap IntKind.i64 ((0 : Int) + (1 : Int)) + (1 : Int)) < (↑(4) : Int)) (.br (decide (s.6 < (0 : Int)) || decide (s.6 > (4503599627370496 : Int))) (.out (AV.bool false) [] (AV.bool (validS s)) []) (.tt (.req ((0 : Int) ≤ IntKind.wrap IntKind.i64 (IntKind.wrap IntKind.i64 (IntKind.wrap IntKind.i64 ((0 : Int) + (1 : Int)) + (1 : Int)) + (1 : Int)) ∧ IntKind.wrap IntKind.i64 (IntKind.wrap IntKind.i64 (IntKind.wrap IntKind.i64 ((0 : Int) + (1 : Int)) + (1 : Int)) + (1 : Int)) < (↑(4) : Int)) (.br (decide (s.7 < (0 : Int)) || decide (s.7 > (4503599627370496 : Int))) (.out (AV.bool false) [] (AV.bool (validS s)) []) (.ff (.out (AV.bool (decide (s.1 ≥ (0 : Int)) && decide (s.1 < (8 : Int)) && decide (s.2 ≥ (0 : Int)) && decide (s.2 ≤ (1000000 : Int)) && decide (s.3 ≥ (0 : Int)) && decide (s.3 ≤ (16 : Int)) && decide (s.6 ≤ s.5))) [] (AV.bool (validS s)) [])))))))))))))))
    (by kernel_rfl) ?_
  refine k_dc (amounts_p (s)) ?_
  refine k_tt ?_
  refine k_req (by decide) ?_
  refine k_br (fun h3 => ?_) (fun h3 => ?_)
  · have g3 := (cnd_or_t cnd_dec_t cnd_dec_t) h3
    exact k_out (Ent.of_eq (congrArg AV.bool (by first | (simp [validS, amt_f g3]; done) | (simp [validS, amt_f g7]; done) | (simp [validS, amt_f g11]; done) | (simp [validS, amt_f g15]; done) | (unfold validS; rw [amt_t g3, amt_t g7, amt_t g11, amt_t g15]; simp [Bool.and_assoc]))))
  · have g3 := (cnd_or_f cnd_dec_f cnd_dec_f) h3
    refine k_tt ?_
    refine k_req (by decide) ?_
    refine k_br (fun h7 => ?_) (fun h7 => ?_)
    · have g7 := (cnd_or_t cnd_dec_t cnd_dec_t) h7
      exact k_out (Ent.of_eq (congrArg AV.bool (by first | (simp [validS, amt_f g3]; done) | (simp [validS, amt_f g7]; done) | (simp [validS, amt_f g11]; done) | (simp [validS, amt_f g15]; done) | (unfold validS; rw [amt_t g3, amt_t g7, amt_t g11, amt_t g15]; simp [Bool.and_assoc]))))
    · have g7 := (cnd_or_f cnd_dec_f cnd_dec_f) h7
      refine k_tt ?_
      refine k_req (by decide) ?_
      refine k_br (fun h11 => ?_) (fun h11 => ?_)
      · have g11 := (cnd_or_t cnd_dec_t cnd_dec_t) h11
        exact k_out (Ent.of_eq (congrArg AV.bool (by first | (simp [validS, amt_f g3]; done) | (simp [validS, amt_f g7]; done) | (simp [validS, amt_f g11]; done) | (simp [validS, amt_f g15]; done) | (unfold validS; rw [amt_t g3, amt_t g7, amt_t g11, amt_t g15]; simp [Bool.and_assoc]))))
      · have g11 := (cnd_or_f cnd_dec_f cnd_dec_f) h11
        refine k_tt ?_
        refine k_req (by decide) ?_
        refine k_br (fun h15 => ?_) (fun h15 => ?_)
        · have g15 := (cnd_or_t cnd_dec_t cnd_dec_t) h15
          exact k_out (Ent.of_eq (congrArg AV.bool (by first | (simp [validS, amt_f g3]; done) | (simp [validS, amt_f g7]; done) | (simp [validS, amt_f g11]; done) | (simp [validS, amt_f g15]; done) | (unfold validS; rw [amt_t g3, amt_t g7, amt_t g11, amt_t g15]; simp [Bool.and_assoc]))))
        · have g15 := (cnd_or_f cnd_dec_f cnd_dec_f) h15
          refine k_ff ?_
          exact k_out (Ent.of_eq (congrArg AV.bool (by first | (simp [validS, amt_f g3]; done) | (simp [validS, amt_f g7]; done) | (simp [validS, amt_f g11]; done) | (simp [validS, amt_f g15]; done) | (unfold validS; rw [amt_t g3, amt_t g7, amt_t g11, amt_t g15]; simp [Bool.and_assoc]))))

end Go.Proofs.YtbmdmoknnlhdoaaGreatDoor.U

namespace Go.Sp
open Go Go.Am

abbrev sps (n : Nat) (S : Nat → Spend) : AV := .isl 80 n (fun i j => atL (S i).cells j)
abbrev ils (n : Nat) (f : Nat → Int) : AV := .isl 1 n (fun i _ => .int .i64 (f i))

structure Chn where
  first : Spend
  n : Nat
  l : Nat → Spend

def Chn.cells (h : Chn) : List AV := h.first.cells ++ [sps h.n h.l]
def Chn.av (h : Chn) : AV := .agg h.cells

structure Esc where
  e1 : Int
  e2 : Int
  na : Nat
  a : Nat → Int
  c : Int
  nz : Nat
  z : Nat → Int

def Esc.cw (e : Esc) (x y : AV) : List AV := [.int .i64 e.e1, .int .i64 e.e2, x, .int .i64 e.c, y]
def Esc.cells (e : Esc) : List AV := e.cw (ils e.na e.a) (ils e.nz e.z)
def Esc.av (e : Esc) : AV := .agg e.cells

abbrev chs (n : Nat) (f : Nat → Chn) : AV := .isl 81 n (fun i j => atL (f i).cells j)
abbrev escs (n : Nat) (f : Nat → Esc) : AV := .isl 5 n (fun i j => atL (f i).cells j)

structure Pay where
  number : Int
  ns : Nat
  sp : Nat → Spend
  nc : Nat
  ch : Nat → Chn
  ne : Nat
  es : Nat → Esc

def Pay.cw (p : Pay) (x y z : AV) : List AV := [.int .i64 p.number, x, y, z]
def Pay.cells (p : Pay) : List AV := p.cw (sps p.ns p.sp) (chs p.nc p.ch) (escs p.ne p.es)
def Pay.av (p : Pay) : AV := .agg p.cells

structure Inv where
  payee : Nat → Int
  amount : Int
  time : Int
  number : Int

def u8c (p : Nat → Int) : List AV := [.int .u8 (p 0), .int .u8 (p 1), .int .u8 (p 2), .int .u8 (p 3), .int .u8 (p 4), .int .u8 (p 5), .int .u8 (p 6), .int .u8 (p 7), .int .u8 (p 8), .int .u8 (p 9), .int .u8 (p 10), .int .u8 (p 11), .int .u8 (p 12), .int .u8 (p 13), .int .u8 (p 14), .int .u8 (p 15), .int .u8 (p 16), .int .u8 (p 17), .int .u8 (p 18), .int .u8 (p 19), .int .u8 (p 20), .int .u8 (p 21), .int .u8 (p 22), .int .u8 (p 23), .int .u8 (p 24), .int .u8 (p 25), .int .u8 (p 26), .int .u8 (p 27), .int .u8 (p 28), .int .u8 (p 29), .int .u8 (p 30), .int .u8 (p 31)]
def Inv.cells (v : Inv) : List AV := u8c v.payee ++ [.int .i64 v.amount, .int .i64 v.time, .int .i64 v.number]
def Inv.av (v : Inv) : AV := .agg v.cells
def Inv.zero : Inv := ⟨fun _ => 0, 0, 0, 0⟩
def anyI (p : Nat → Bool) (n : Nat) : Bool := decide (firstI p n 0 ≥ 0)
def Pay.zero : Pay := ⟨0, 0, fun _ => .zero, 0, fun _ => ⟨.zero, 0, fun _ => .zero⟩, 0, fun _ => ⟨0, 0, 0, fun _ => 0, 0, 0, fun _ => 0⟩⟩
structure LightP (p : Pay) : Prop where
  ns : p.ns ≤ 8
  nc : p.nc ≤ 8
  ne : p.ne ≤ 20
  sp : ∀ i, i < p.ns → (p.sp i).nl ≤ 1000 ∧ (p.sp i).np ≤ 1000
  cn : ∀ i, i < p.nc → (p.ch i).n ≤ 10
  cf : ∀ i, i < p.nc → (p.ch i).first.nl ≤ 1000 ∧ (p.ch i).first.np ≤ 1000
  cl : ∀ i j, i < p.nc → j < (p.ch i).n → ((p.ch i).l j).nl ≤ 1000 ∧ ((p.ch i).l j).np ≤ 1000
  es : ∀ i, i < p.ne → (p.es i).na ≤ 1000 ∧ (p.es i).nz ≤ 1000

theorem anyI_f {p : Nat → Bool} {n : Nat} (h : anyI p n = false) : ∀ i, i < n → p i = false := by
  intro i hi
  unfold anyI at h
  rw [firstI_neg] at h
  have := List.any_eq_false.1 h i (List.mem_range.2 hi)
  simpa using this

theorem EntL.app {os : List (Option Ob)} : ∀ {l l' m m' : List AV}, EntL os l l' → EntL os m m' → EntL os (l ++ m) (l' ++ m')
  | [], [], _, _, _, h => h
  | _ :: _, _ :: _, _, _, h, h' => ⟨h.1, EntL.app h.2 h'⟩
  | [], _ :: _, _, _, h, _ => h.elim
  | _ :: _, [], _, _, h, _ => h.elim
end Go.Sp

namespace Go.Proofs.YtbmdmoknnlhdoaaGreatDoor.U
open Go Go.Am Go.Sp
set_option maxRecDepth 100000

theorem indexS_w (F : FuncId) (f : Nat → Sup) (n : Nat) (p : Nat → Bool) (hn : n < 9223372036854775808) (hc : ∀ i, i < n → Pure Tryz.prog gl0 F [.agg (f i).cells] (.bool (p i))) : Pure Tryz.prog gl0 148 [supA n f, .fn (.func F) [] []] (.int .i64 (firstI p n 0)) := by
  refine pure_sk (own := ow0) Tryz.func148 (by kernel_rfl) mixed (by kernel_rfl)
    (.loop ({ x : Nat // x ≤ n ∧ (fun (i : Nat) => firstI p n (0 : Nat) = firstI p (n - i) i) x }) (fun (x : { x : Nat // x ≤ n ∧ (fun (i : Nat) => firstI p n (0 : Nat) = firstI p (n - i) i) x }) => mkSt [0, 1, 7, 8] [AV.isl (7) n fun (i j : Nat) => atL (Sup.cells (f i)) j, AV.fn (Fn.func F) [] [], Zi (↑n : Int), Zi (↑(x.1) : Int)] []) (fun (x : { x : Nat // x ≤ n ∧ (fun (i : Nat) => firstI p n (0 : Nat) = firstI p (n - i) i) x }) => n - x.1) (⟨(0 : Nat), ⟨Nat.zero_le n, rfl⟩⟩) ([0, 1, 7, 8]) ([]) ([AV.isl (7) n fun (i j : Nat) => atL (Sup.cells (f i)) j, AV.fn (Fn.func F) [] [], Zi (↑n : Int), Zi 0]) ([]) (fun x0 => (.br (decide ((↑x0.1 : Int) < (↑n : Int))) (.req ((0 : Int) ≤ (↑x0.1 : Int) ∧ (↑x0.1 : Int) < (↑n : Int)) (.sc (true) F ([AV.agg (Sup.cells (f (Int.toNat (↑(x0.1) : Int))))]) (AV.bool (p (Int.toNat (↑(x0.1) : Int)))) (.br (p (Int.toNat (↑x0.1 : Int))) (.out (Zi (↑x0.1 : Int)) [] (Zi (firstI p n (0 : Nat))) []) (.again (Again (0) (fun (x : { x : Nat // x ≤ n ∧ (fun (i : Nat) => firstI p n (0 : Nat) = firstI p (n - i) i) x }) => mkSt [0, 1, 7, 8] [AV.isl (7) n fun (i j : Nat) => atL (Sup.cells (f i)) j, AV.fn (Fn.func F) [] [], Zi (↑n : Int), Zi (↑(x.1) : Int)] []) (fun (x : { x : Nat // x ≤ n ∧ (fun (i : Nat) => firstI p n (0 : Nat) = firstI p (n - i) i) x }) => n - x.1) x0) ([0, 1, 7, 8]) ([]) ([AV.isl (7) n fun (i j : Nat) => atL (Sup.cells (f i)) j, AV.fn (Fn.func F) [] [], Zi (↑n : Int), Zi (IntKind.wrap IntKind.i64 ((↑x0.1 : Int) + (1 : Int)))]) ([]))))) (.out (Zi (-1)) [] (Zi (firstI p n (0 : Nat))) []))))
    (by kernel_rfl) ?_
  refine k_loop (fun _ hs => hs.le (by repeat' (first | exact trivial | (first | exact Ent.refl _ | exact inc_ent (by omega) | exact Ent.nil rfl | exact Ent.of_eq (congrArg (AV.osl _ _ _) (by first | omega | (dsimp only; omega))) | exact Ent.of_eq (congrArg (AV.int _) (by first | omega | (dsimp only; omega)))) | refine And.intro ?_ ?_)) (trivial)) (fun x0 => ?_)
  try (have q0 := x0.2; dsimp only at q0)
  refine k_br (fun h1 => ?_) (fun h1 => ?_)
  · have g1 := cnd_dec_t h1
    refine k_req (by first | omega | (simp only [Int.toNat_natCast]; omega)) ?_
    refine k_sc (hc (Int.toNat (↑(x0.1) : Int)) (by first | assumption | omega)) ?_
    refine k_br (fun h4 => ?_) (fun h4 => ?_)
    · have g4 := cnd_id_t h4
      try simp only [Int.toNat_natCast] at g4
      exact k_out (Ent.of_eq (congrArg _ (first_hit x0.2.2 (by omega) g4)))
    · have g4 := cnd_id_f h4
      try simp only [Int.toNat_natCast] at g4
      exact k_again (⟨x0.1 + 1, by omega, first_next x0.2.2 (by omega) g4⟩) (fun _ hs => hs.le (by repeat' (first | exact trivial | (first | exact Ent.refl _ | exact inc_ent (by omega) | exact Ent.nil rfl | exact Ent.of_eq (congrArg (AV.osl _ _ _) (by first | omega | (dsimp only; omega))) | exact Ent.of_eq (congrArg (AV.int _) (by first | omega | (dsimp only; omega)))) | refine And.intro ?_ ?_)) (trivial)) (by first | omega | (dsimp only; omega) | (simp; omega))
  · have g1 := cnd_dec_f h1
    exact k_out (Ent.of_eq (congrArg _ (first_miss x0.2.2 (by omega))))
theorem containsS_w (F : FuncId) (f : Nat → Sup) (n : Nat) (p : Nat → Bool) (hn : n < 9223372036854775808) (hc : ∀ i, i < n → Pure Tryz.prog gl0 F [.agg (f i).cells] (.bool (p i))) : Pure Tryz.prog gl0 99 [supA n f, .fn (.func F) [] []] (.bool (anyI p n)) := by
  have c1 := indexS_w F f n p hn hc
  refine pure_sk (own := ow0) Tryz.func99 (by kernel_rfl) mixed (by kernel_rfl)
    (.sc (true) 148 ([AV.isl (7) n fun (i j : Nat) => atL (Sup.cells (f i)) j, AV.fn (Fn.func F) [] []]) (Zi (firstI p n (0 : Nat))) (.out (AV.bool (decide (firstI p n (0) ≥ (0 : Int)))) [] (AV.bool (anyI p n)) []))
    (by kernel_rfl) ?_
  refine k_sc (c1) ?_
  exact k_out (Ent.refl _)
theorem not2_c (s : Sup) : Pure Tryz.prog gl0 100 [.agg s.cells] (.bool (!validS s)) := by
  refine pure_sk (own := ow0) Tryz.func100 (by kernel_rfl) mixed (by kernel_rfl)
    (.sc (true) 64 ([AV.agg (Sup.cells s)]) (AV.bool (validS s)) (.out (AV.bool !validS s) [] (AV.bool !validS s) []))
    (by kernel_rfl) ?_
  refine k_sc (valid_c (s)) ?_
  exact k_out (Ent.of_eq (by first | rfl | simp_all))
end Go.Proofs.YtbmdmoknnlhdoaaGreatDoor.U
