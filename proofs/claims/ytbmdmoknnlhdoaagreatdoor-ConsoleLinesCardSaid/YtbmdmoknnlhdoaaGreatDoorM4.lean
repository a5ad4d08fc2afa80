/- Part of the proof: TryzShelfP, KL1, KL2, KL3, KL4, KL5, KL6, KL7, KL8, KL9, Cns8, Cns9, Cns10, Cns11. -/
import Derived.Shelf.Strings.Builder1
import Derived.Shelf.Strings.Builder2
import Derived.Shelf.Strings.OnBuilder
import Derived.Shelf.Small.Bits
import Derived.Shelf.Strings.BuilderF
import Derived.Shelf.Strings.BuilderK
import Derived.Shelf.Strconv.Atoi
import Derived.Shelf.Strconv.Itoa0
import Derived.Shelf.Strconv.Itoa1
import Derived.Shelf.LaysM
import Derived.Shelf.Strconv.Itoa2
import Derived.Shelf.Strconv.Itoa3
import Derived.Shelf.Strconv.AtoiErrFast
import Derived.Shelf.Strconv.ParseIntEmpty
import Derived.Shelf.Strconv.AtoiFail
import Derived.Shelf.Strconv.Clone
import Derived.Shelf.Strconv.SyntaxError
import Derived.Shelf.LaysC
import Derived.Shelf.Strconv.ToError
import Derived.Shelf.Strconv.Lower
import Derived.Shelf.Strconv.ParseUint10
import Derived.Shelf.Strconv.ParseUint10Empty
import Derived.Shelf.Strconv.ParseUint10Any
import Derived.Shelf.Strconv.ParseInt10
import Derived.Shelf.Strconv.AtoiLong
import Derived.Shelf.Strconv.AtoiInnerAll
import Derived.Shelf.Strconv.RangeError
import Derived.Shelf.Strconv.ToErrorRange
import Derived.Shelf.Strconv.AtoiAll
import Derived.Shelf.Strconv.ErrVarAll
import Derived.Shelf.Strings.Search1
import Derived.Shelf.Strings.Search2
import Derived.Shelf.Strings.Search3
import Derived.Shelf.Strings.Cut
import Derived.Shelf.Strings.Count
import Derived.Shelf.Strings.Shaped
import Derived.Shelf.Strings.Prefix
import Derived.Shelf.Strings.Split
import Derived.Shelf.Strings.Fields
import Derived.Shelf.Strings.SplitShaped
import Derived.Shelf.Unicode.Latin
import Derived.Shelf.Bits.Mul64
import Derived.Shelf.Unicode.DecodeSlow
import Derived.Shelf.Unicode.Is16White
import Derived.Shelf.Unicode.IsSpaceAny
import Derived.Shelf.Unicode.Is16Any
import Derived.Shelf.Unicode.Is32Any
import Derived.Shelf.Unicode.ExclAny
import Derived.Test.YtbmdmoknnlhdoaaGreatDoorProg
import Derived.Test.YtbmdmoknnlhdoaaGreatDoorM3
namespace Go.Proofs
open Go.Shelf
def Tryz.lays156_ren : Go.Shelf.Ren := ⟨fun | 156 => 70 | 165 => 115 | 166 => 65 | 169 => 36 | 240 => 69 | 241 => 158 | 276 => 114 | 277 => 196 | n => n, fun | 31 => 47 | 9 => 9 | 3 => 3 | 4 => 4 | 0 => 0 | 20 => 20 | 72 => 95 | 76 => 113 | 70 => 92 | 37 => 93 | 75 => 97 | 127 => 131 | 164 => 176 | 5 => 5 | 80 => 101 | n => n, fun | n => n⟩
theorem Tryz.lays156 : Go.Proofs.Lays.n156 Tryz.prog Tryz.lays156_ren := {
  mixed := by kernel_rfl
  f156 := Tryz.func70.trans (congrArg some (by kernel_rfl))
  f165 := Tryz.func115.trans (congrArg some (by kernel_rfl))
  f166 := Tryz.func65.trans (congrArg some (by kernel_rfl))
  f169 := Tryz.func36.trans (congrArg some (by kernel_rfl))
  f240 := Tryz.func69.trans (congrArg some (by kernel_rfl))
  f241 := Tryz.func158.trans (congrArg some (by kernel_rfl))
  f276 := Tryz.func114.trans (congrArg some (by kernel_rfl))
  f277 := Tryz.func196.trans (congrArg some (by kernel_rfl))
  t0 := Tryz.underlying0
  a0 := Tryz.isAgg0
  z0 := Tryz.sizeOf0
  v0 := Tryz.zeroValue0
  t3 := Tryz.underlying3
  a3 := Tryz.isAgg3
  z3 := Tryz.sizeOf3
  v3 := Tryz.zeroValue3
  t4 := Tryz.underlying4
  a4 := Tryz.isAgg4
  z4 := Tryz.sizeOf4
  v4 := Tryz.zeroValue4
  t9 := Tryz.underlying9
  a9 := Tryz.isAgg9
  z9 := Tryz.sizeOf9
  v9 := Tryz.zeroValue9
  t20 := Tryz.underlying20
  a20 := Tryz.isAgg20
  z20 := Tryz.sizeOf20
  v20 := Tryz.zeroValue20
  t31 := Tryz.underlying47
  a31 := Tryz.isAgg47
  z31 := Tryz.sizeOf47
  v31 := Tryz.zeroValue47
  t37 := Tryz.underlying93
  a37 := Tryz.isAgg93
  z37 := Tryz.sizeOf93
  v37 := Tryz.zeroValue93
  t70 := Tryz.underlying92
  a70 := Tryz.isAgg92
  z70 := Tryz.sizeOf92
  v70 := Tryz.zeroValue92
  t72 := Tryz.underlying95
  a72 := Tryz.isAgg95
  z72 := Tryz.sizeOf95
  v72 := Tryz.zeroValue95
  t75 := Tryz.underlying97
  a75 := Tryz.isAgg97
  z75 := Tryz.sizeOf97
  v75 := Tryz.zeroValue97
  t76 := Tryz.underlying113
  a76 := Tryz.isAgg113
  z76 := Tryz.sizeOf113
  v76 := Tryz.zeroValue113
  t127 := Tryz.underlying131
  a127 := Tryz.isAgg131
  z127 := Tryz.sizeOf131
  v127 := Tryz.zeroValue131
  t164 := Tryz.underlying176
  a164 := Tryz.isAgg176
  z164 := Tryz.sizeOf176
  v164 := Tryz.zeroValue176 }
theorem Tryz.Builder_Extra_156 : Builder.Extra Tryz.prog Tryz.lays156_ren := {
  sizeBuilder := by kernel_rfl
  liesBuilder := by kernel_rfl
  t5 := Tryz.underlying5
  a5 := Tryz.isAgg5
  z5 := Tryz.sizeOf5
  v5 := Tryz.zeroValue5
  infoByte := by kernel_rfl
  cellsByte := by kernel_rfl
  sizeByte := by kernel_rfl
  neB5 := by decide }
open Go.RowKit in
theorem Tryz.strings_Join_none (a : Option Addr) (c : Nat) (sep : ByteArray) (w : World) :
    Calls Tryz.prog 70 #[.slice a 0 c, .string sep] w fun e w' => e = .returned (.string ⟨#[]⟩) ∧ w' = w := Any.strings_Join_none Tryz.lays156 Tryz.Builder_Extra_156 a c sep w
open Go.RowKit in
theorem Tryz.strings_Join (bk o c : Nat) (xs : List ByteArray) (sep : ByteArray) (w : World) (hcells : ∀ (j : Nat) x, xs[j]? = some x → w.cell? ⟨bk, o + j, none⟩ = some (.string x)) (hbk : bk < w.heap.size) (hN : xs.length ≤ 140737488355328) (hcap : xs.length ≤ c) (hlen : (Lib.join (xs.map (·.data.toList)) sep.data.toList).length ≤ 140737488355328) :
    Calls Tryz.prog 70 #[.slice (some ⟨bk, o, none⟩) xs.length c, .string sep] w fun e w' => e = .returned (.string ⟨(Lib.join (xs.map (·.data.toList)) sep.data.toList).toArray⟩) ∧ Below w.heap.size w w' := Any.strings_Join Tryz.lays156 Tryz.Builder_Extra_156 bk o c xs sep w hcells hbk hN hcap hlen
def Tryz.laysM171_ren : Go.Shelf.Ren := ⟨fun | 171 => 35 | 243 => 71 | 246 => 116 | 283 => 159 | 284 => 160 | 285 => 161 | 286 => 162 | 129 => 198 | 317 => 197 | 318 => 199 | 319 => 200 | 320 => 201 | 337 => 232 | 338 => 233 | n => n, fun | 3 => 3 | 9 => 9 | 2 => 2 | 4 => 4 | 171 => 214 | 0 => 0 | 53 => 206 | 37 => 93 | 5 => 5 | 173 => 217 | 212 => 254 | 51 => 234 | 20 => 20 | 213 => 255 | 46 => 99 | 232 => 103 | 233 => 311 | n => n, fun | 17 => 7 | 18 => 12 | 19 => 13 | n => n⟩
theorem Tryz.laysM171 : Go.Proofs.LaysM.n171 Tryz.prog Tryz.laysM171_ren := {
  mixed := by kernel_rfl
  f129 := Tryz.func198.trans (congrArg some (by kernel_rfl))
  f171 := Tryz.func35.trans (congrArg some (by kernel_rfl))
  f243 := Tryz.func71.trans (congrArg some (by kernel_rfl))
  f246 := Tryz.func116.trans (congrArg some (by kernel_rfl))
  f283 := Tryz.func159.trans (congrArg some (by kernel_rfl))
  f284 := Tryz.func160.trans (congrArg some (by kernel_rfl))
  f285 := Tryz.func161.trans (congrArg some (by kernel_rfl))
  f286 := Tryz.func162.trans (congrArg some (by kernel_rfl))
  f317 := Tryz.func197.trans (congrArg some (by kernel_rfl))
  f318 := Tryz.func199.trans (congrArg some (by kernel_rfl))
  f319 := Tryz.func200.trans (congrArg some (by kernel_rfl))
  f320 := Tryz.func201.trans (congrArg some (by kernel_rfl))
  f337 := Tryz.func232.trans (congrArg some (by kernel_rfl))
  f338 := Tryz.func233.trans (congrArg some (by kernel_rfl))
  t0 := Tryz.underlying0
  a0 := Tryz.isAgg0
  z0 := Tryz.sizeOf0
  v0 := Tryz.zeroValue0
  t2 := Tryz.underlying2
  a2 := Tryz.isAgg2
  z2 := Tryz.sizeOf2
  v2 := Tryz.zeroValue2
  t3 := Tryz.underlying3
  a3 := Tryz.isAgg3
  z3 := Tryz.sizeOf3
  v3 := Tryz.zeroValue3
  t4 := Tryz.underlying4
  a4 := Tryz.isAgg4
  z4 := Tryz.sizeOf4
  v4 := Tryz.zeroValue4
  t5 := Tryz.underlying5
  a5 := Tryz.isAgg5
  z5 := Tryz.sizeOf5
  v5 := Tryz.zeroValue5
  t9 := Tryz.underlying9
  a9 := Tryz.isAgg9
  z9 := Tryz.sizeOf9
  v9 := Tryz.zeroValue9
  t20 := Tryz.underlying20
  a20 := Tryz.isAgg20
  z20 := Tryz.sizeOf20
  v20 := Tryz.zeroValue20
  t37 := Tryz.underlying93
  a37 := Tryz.isAgg93
  z37 := Tryz.sizeOf93
  v37 := Tryz.zeroValue93
  t46 := Tryz.underlying99
  a46 := Tryz.isAgg99
  z46 := Tryz.sizeOf99
  v46 := Tryz.zeroValue99
  t51 := Tryz.underlying234
  a51 := Tryz.isAgg234
  z51 := Tryz.sizeOf234
  v51 := Tryz.zeroValue234
  t53 := Tryz.underlying206
  a53 := Tryz.isAgg206
  z53 := Tryz.sizeOf206
  v53 := Tryz.zeroValue206
  t171 := Tryz.underlying214
  a171 := Tryz.isAgg214
  z171 := Tryz.sizeOf214
  v171 := Tryz.zeroValue214
  t173 := Tryz.underlying217
  a173 := Tryz.isAgg217
  z173 := Tryz.sizeOf217
  v173 := Tryz.zeroValue217
  t212 := Tryz.underlying254
  a212 := Tryz.isAgg254
  z212 := Tryz.sizeOf254
  v212 := Tryz.zeroValue254
  t213 := Tryz.underlying255
  a213 := Tryz.isAgg255
  z213 := Tryz.sizeOf255
  t232 := Tryz.underlying103
  a232 := Tryz.isAgg103
  z232 := Tryz.sizeOf103
  v232 := Tryz.zeroValue103
  t233 := Tryz.underlying311
  a233 := Tryz.isAgg311
  z233 := Tryz.sizeOf311
  v233 := Tryz.zeroValue311
  g17 := by kernel_rfl
  g18 := by kernel_rfl
  g19 := by kernel_rfl
  i0 := by kernel_rfl
  i2 := by kernel_rfl
  i3 := by kernel_rfl
  i4 := by kernel_rfl
  i5 := by kernel_rfl
  i9 := by kernel_rfl
  i20 := by kernel_rfl
  i37 := by kernel_rfl
  i46 := by kernel_rfl
  i51 := by kernel_rfl
  i53 := by kernel_rfl
  i171 := by kernel_rfl
  i173 := by kernel_rfl
  i212 := by kernel_rfl
  i232 := by kernel_rfl
  i233 := by kernel_rfl
  m17 := by kernel_rfl
  m18 := by kernel_rfl
  m19 := by kernel_rfl }
open Go.RowKit Go.Sort Go.Lib in
theorem Tryz.strconv_Itoa (n : Int) (h0 : -9223372036854775808 ≤ n) (h1 : n ≤ 9223372036854775807) (w : World) (htab : Lib.TabIs Tryz.prog w "internal/strconv.uint64pow10" .u64 Lib.pow10Tab) :
    Calls Tryz.prog 35 #[.int .i64 n] w fun e w' => e = .returned (.string ⟨(Lib.itoa n).toArray⟩) ∧ ∃ k os, w' = grow (w.drewN k) os := Any.strconv_Itoa Tryz.laysM171 n h0 h1 w htab
def Tryz.laysC172_ren : Go.Shelf.Ren := ⟨fun | 172 => 48 | 244 => 80 | 245 => 81 | 247 => 126 | 279 => 127 | 280 => 128 | 281 => 129 | 282 => 130 | 287 => 174 | 316 => 175 | 171 => 35 | 205 => 176 | 321 => 206 | 322 => 207 | 243 => 71 | 246 => 116 | 283 => 159 | 284 => 160 | 285 => 161 | 286 => 162 | 129 => 198 | 317 => 197 | 318 => 199 | 319 => 200 | 320 => 201 | 337 => 232 | 338 => 233 | n => n, fun | 9 => 9 | 3 => 3 | 75 => 97 | 76 => 113 | 4 => 4 | 5 => 5 | 167 => 185 | 37 => 93 | 0 => 0 | 85 => 186 | 2 => 2 | 168 => 188 | 53 => 206 | 175 => 226 | 46 => 99 | 210 => 229 | 127 => 131 | 145 => 261 | 143 => 259 | 21 => 21 | 171 => 214 | 173 => 217 | 212 => 254 | 51 => 234 | 20 => 20 | 213 => 255 | 232 => 103 | 233 => 311 | 80 => 101 | n => n, fun | 15 => 3 | 16 => 4 | 17 => 7 | 18 => 12 | 19 => 13 | n => n⟩
theorem Tryz.laysC172 : Go.Proofs.LaysC.n172 Tryz.prog Tryz.laysC172_ren := {
  mixed := by kernel_rfl
  f129 := Tryz.func198.trans (congrArg some (by kernel_rfl))
  f171 := Tryz.func35.trans (congrArg some (by kernel_rfl))
  f172 := Tryz.func48.trans (congrArg some (by kernel_rfl))
  f205 := Tryz.func176.trans (congrArg some (by kernel_rfl))
  f243 := Tryz.func71.trans (congrArg some (by kernel_rfl))
  f244 := Tryz.func80.trans (congrArg some (by kernel_rfl))
  f245 := Tryz.func81.trans (congrArg some (by kernel_rfl))
  f246 := Tryz.func116.trans (congrArg some (by kernel_rfl))
  f247 := Tryz.func126.trans (congrArg some (by kernel_rfl))
  f279 := Tryz.func127.trans (congrArg some (by kernel_rfl))
  f280 := Tryz.func128.trans (congrArg some (by kernel_rfl))
  f281 := Tryz.func129.trans (congrArg some (by kernel_rfl))
  f282 := Tryz.func130.trans (congrArg some (by kernel_rfl))
  f283 := Tryz.func159.trans (congrArg some (by kernel_rfl))
  f284 := Tryz.func160.trans (congrArg some (by kernel_rfl))
  f285 := Tryz.func161.trans (congrArg some (by kernel_rfl))
  f286 := Tryz.func162.trans (congrArg some (by kernel_rfl))
  f287 := Tryz.func174.trans (congrArg some (by kernel_rfl))
  f316 := Tryz.func175.trans (congrArg some (by kernel_rfl))
  f317 := Tryz.func197.trans (congrArg some (by kernel_rfl))
  f318 := Tryz.func199.trans (congrArg some (by kernel_rfl))
  f319 := Tryz.func200.trans (congrArg some (by kernel_rfl))
  f320 := Tryz.func201.trans (congrArg some (by kernel_rfl))
  f321 := Tryz.func206.trans (congrArg some (by kernel_rfl))
  f322 := Tryz.func207.trans (congrArg some (by kernel_rfl))
  f337 := Tryz.func232.trans (congrArg some (by kernel_rfl))
  f338 := Tryz.func233.trans (congrArg some (by kernel_rfl))
  t0 := Tryz.underlying0
  a0 := Tryz.isAgg0
  z0 := Tryz.sizeOf0
  v0 := Tryz.zeroValue0
  t2 := Tryz.underlying2
  a2 := Tryz.isAgg2
  z2 := Tryz.sizeOf2
  v2 := Tryz.zeroValue2
  t3 := Tryz.underlying3
  a3 := Tryz.isAgg3
  z3 := Tryz.sizeOf3
  v3 := Tryz.zeroValue3
  t4 := Tryz.underlying4
  a4 := Tryz.isAgg4
  z4 := Tryz.sizeOf4
  v4 := Tryz.zeroValue4
  t5 := Tryz.underlying5
  a5 := Tryz.isAgg5
  z5 := Tryz.sizeOf5
  v5 := Tryz.zeroValue5
  t9 := Tryz.underlying9
  a9 := Tryz.isAgg9
  z9 := Tryz.sizeOf9
  v9 := Tryz.zeroValue9
  t20 := Tryz.underlying20
  a20 := Tryz.isAgg20
  z20 := Tryz.sizeOf20
  v20 := Tryz.zeroValue20
  t21 := Tryz.underlying21
  a21 := Tryz.isAgg21
  z21 := Tryz.sizeOf21
  v21 := Tryz.zeroValue21
  t37 := Tryz.underlying93
  a37 := Tryz.isAgg93
  z37 := Tryz.sizeOf93
  v37 := Tryz.zeroValue93
  t46 := Tryz.underlying99
  a46 := Tryz.isAgg99
  z46 := Tryz.sizeOf99
  v46 := Tryz.zeroValue99
  t51 := Tryz.underlying234
  a51 := Tryz.isAgg234
  z51 := Tryz.sizeOf234
  v51 := Tryz.zeroValue234
  t53 := Tryz.underlying206
  a53 := Tryz.isAgg206
  z53 := Tryz.sizeOf206
  v53 := Tryz.zeroValue206
  t75 := Tryz.underlying97
  a75 := Tryz.isAgg97
  z75 := Tryz.sizeOf97
  v75 := Tryz.zeroValue97
  t76 := Tryz.underlying113
  a76 := Tryz.isAgg113
  z76 := Tryz.sizeOf113
  v76 := Tryz.zeroValue113
  t85 := Tryz.underlying186
  a85 := Tryz.isAgg186
  z85 := Tryz.sizeOf186
  v85 := Tryz.zeroValue186
  t127 := Tryz.underlying131
  a127 := Tryz.isAgg131
  z127 := Tryz.sizeOf131
  v127 := Tryz.zeroValue131
  t143 := Tryz.underlying259
  a143 := Tryz.isAgg259
  z143 := Tryz.sizeOf259
  v143 := Tryz.zeroValue259
  t145 := Tryz.underlying261
  a145 := Tryz.isAgg261
  z145 := Tryz.sizeOf261
  v145 := Tryz.zeroValue261
  t167 := Tryz.underlying185
  a167 := Tryz.isAgg185
  z167 := Tryz.sizeOf185
  v167 := Tryz.zeroValue185
  t168 := Tryz.underlying188
  a168 := Tryz.isAgg188
  z168 := Tryz.sizeOf188
  v168 := Tryz.zeroValue188
  t171 := Tryz.underlying214
  a171 := Tryz.isAgg214
  z171 := Tryz.sizeOf214
  v171 := Tryz.zeroValue214
  t173 := Tryz.underlying217
  a173 := Tryz.isAgg217
  z173 := Tryz.sizeOf217
  v173 := Tryz.zeroValue217
  t175 := Tryz.underlying226
  a175 := Tryz.isAgg226
  z175 := Tryz.sizeOf226
  v175 := Tryz.zeroValue226
  t210 := Tryz.underlying229
  a210 := Tryz.isAgg229
  z210 := Tryz.sizeOf229
  v210 := Tryz.zeroValue229
  t212 := Tryz.underlying254
  a212 := Tryz.isAgg254
  z212 := Tryz.sizeOf254
  v212 := Tryz.zeroValue254
  t213 := Tryz.underlying255
  a213 := Tryz.isAgg255
  z213 := Tryz.sizeOf255
  t232 := Tryz.underlying103
  a232 := Tryz.isAgg103
  z232 := Tryz.sizeOf103
  v232 := Tryz.zeroValue103
  t233 := Tryz.underlying311
  a233 := Tryz.isAgg311
  z233 := Tryz.sizeOf311
  v233 := Tryz.zeroValue311
  g15 := by kernel_rfl
  g16 := by kernel_rfl
  g17 := by kernel_rfl
  g18 := by kernel_rfl
  g19 := by kernel_rfl
  t80 := Tryz.underlying101
  a80 := Tryz.isAgg101
  z80 := Tryz.sizeOf101
  v80 := Tryz.zeroValue101
  i0 := by kernel_rfl
  i2 := by kernel_rfl
  i3 := by kernel_rfl
  i4 := by kernel_rfl
  i5 := by kernel_rfl
  i9 := by kernel_rfl
  i20 := by kernel_rfl
  i21 := by kernel_rfl
  i37 := by kernel_rfl
  i46 := by kernel_rfl
  i51 := by kernel_rfl
  i53 := by kernel_rfl
  i75 := by kernel_rfl
  i76 := by kernel_rfl
  i80 := by kernel_rfl
  i85 := by kernel_rfl
  i127 := by kernel_rfl
  i143 := by kernel_rfl
  i145 := by kernel_rfl
  i167 := by kernel_rfl
  i168 := by kernel_rfl
  i171 := by kernel_rfl
  i173 := by kernel_rfl
  i175 := by kernel_rfl
  i210 := by kernel_rfl
  i212 := by kernel_rfl
  i232 := by kernel_rfl
  i233 := by kernel_rfl
  m15 := by kernel_rfl
  m16 := by kernel_rfl
  m17 := by kernel_rfl
  m18 := by kernel_rfl
  m19 := by kernel_rfl
  c0 := by kernel_rfl
  c2 := by kernel_rfl
  c3 := by kernel_rfl
  c4 := by kernel_rfl
  c5 := by kernel_rfl
  c9 := by kernel_rfl
  c20 := by kernel_rfl
  c21 := by kernel_rfl
  c37 := by kernel_rfl
  c46 := by kernel_rfl
  c51 := by kernel_rfl
  c53 := by kernel_rfl
  c75 := by kernel_rfl
  c76 := by kernel_rfl
  c80 := by kernel_rfl
  c85 := by kernel_rfl
  c127 := by kernel_rfl
  c143 := by kernel_rfl
  c145 := by kernel_rfl
  c167 := by kernel_rfl
  c168 := by kernel_rfl
  c171 := by kernel_rfl
  c173 := by kernel_rfl
  c175 := by kernel_rfl
  c210 := by kernel_rfl
  c212 := by kernel_rfl
  c213 := by kernel_rfl
  c232 := by kernel_rfl
  c233 := by kernel_rfl }
open Go.RowKit in
theorem Tryz.strconv_Atoi_ok (s : ByteArray) (hmax : s.size ≤ 9223372036854775806) (v : Int) (h : Lib.atoiAll s.data.toList = .ok v) (w : World) :
    Calls Tryz.prog 48 #[.string s] w fun e w' => e = .returned (.tuple #[.int .i64 v, .nilIface]) ∧ (w' = w ∨ ∃ t, w' = Lib.bytesWorld w 5 t) := Any.strconv_Atoi_ok Tryz.laysC172 s hmax v h w
open Go.RowKit in
theorem Tryz.strconv_Atoi_syntax (s : ByteArray) (hlim : s.size ≤ 281474976710656) (h : Lib.atoiAll s.data.toList = Lib.NumEnd.syntax) (ev : Value) (w : World) (hv : w.cell? ⟨3, 0, none⟩ = some ev) (hev : ev = .nilIface ∨ ∃ te pe, ev = .iface te pe) :
    Calls Tryz.prog 48 #[.string s] w fun e w' => ∃ N, e = .returned (.tuple #[.int .i64 (0), .iface 188 (.pointer (some ⟨N, 0, none⟩))]) ∧ w.heap.size ≤ N ∧ w'.heap[N]? = some (.cells #[.string ⟨#[65, 116, 111, 105]⟩, .string s, ev] 229 (0, 0)) ∧ Below w.heap.size w w' := Any.strconv_Atoi_syntax Tryz.laysC172 s hlim h ev w hv hev
open Go.RowKit in
theorem Tryz.strconv_Atoi_range (s : ByteArray) (hlim : s.size ≤ 281474976710656) (h : Lib.atoiAll s.data.toList = .range) (ev : Value) (w : World) (hv : w.cell? ⟨4, 0, none⟩ = some ev) (hev : ev = .nilIface ∨ ∃ te pe, ev = .iface te pe) :
    Calls Tryz.prog 48 #[.string s] w fun e w' => ∃ N, e = .returned (.tuple #[.int .i64 (Lib.atoiSat s.data.toList), .iface 188 (.pointer (some ⟨N, 0, none⟩))]) ∧ w.heap.size ≤ N ∧ w'.heap[N]? = some (.cells #[.string ⟨#[65, 116, 111, 105]⟩, .string s, ev] 229 (0, 0)) ∧ Below w.heap.size w w' := Any.strconv_Atoi_range Tryz.laysC172 s hlim h ev w hv hev
def Tryz.lays146_ren : Go.Shelf.Ren := ⟨fun | 146 => 46 | 221 => 78 | 268 => 122 | 138 => 123 | 143 => 124 | 195 => 167 | 197 => 168 | 218 => 169 | 219 => 125 | 260 => 203 | 217 => 170 | 225 => 171 | 224 => 172 | 267 => 173 | 266 => 204 | 314 => 205 | n => n, fun | 9 => 9 | 31 => 47 | 3 => 3 | 4 => 4 | 0 => 0 | 105 => 222 | 21 => 21 | 5 => 5 | 46 => 99 | 119 => 194 | 139 => 292 | 138 => 291 | 146 => 256 | 51 => 234 | n => n, fun | 1 => 2 | 3 => 9 | 4 => 10 | n => n⟩
theorem Tryz.lays146 : Go.Proofs.Lays.n146 Tryz.prog Tryz.lays146_ren := {
  mixed := by kernel_rfl
  f138 := Tryz.func123.trans (congrArg some (by kernel_rfl))
  f143 := Tryz.func124.trans (congrArg some (by kernel_rfl))
  f146 := Tryz.func46.trans (congrArg some (by kernel_rfl))
  f195 := Tryz.func167.trans (congrArg some (by kernel_rfl))
  f197 := Tryz.func168.trans (congrArg some (by kernel_rfl))
  f217 := Tryz.func170.trans (congrArg some (by kernel_rfl))
  f218 := Tryz.func169.trans (congrArg some (by kernel_rfl))
  f219 := Tryz.func125.trans (congrArg some (by kernel_rfl))
  f221 := Tryz.func78.trans (congrArg some (by kernel_rfl))
  f224 := Tryz.func172.trans (congrArg some (by kernel_rfl))
  f225 := Tryz.func171.trans (congrArg some (by kernel_rfl))
  f260 := Tryz.func203.trans (congrArg some (by kernel_rfl))
  f266 := Tryz.func204.trans (congrArg some (by kernel_rfl))
  f267 := Tryz.func173.trans (congrArg some (by kernel_rfl))
  f268 := Tryz.func122.trans (congrArg some (by kernel_rfl))
  f314 := Tryz.func205.trans (congrArg some (by kernel_rfl))
  t0 := Tryz.underlying0
  a0 := Tryz.isAgg0
  z0 := Tryz.sizeOf0
  v0 := Tryz.zeroValue0
  t3 := Tryz.underlying3
  a3 := Tryz.isAgg3
  z3 := Tryz.sizeOf3
  v3 := Tryz.zeroValue3
  t4 := Tryz.underlying4
  a4 := Tryz.isAgg4
  z4 := Tryz.sizeOf4
  v4 := Tryz.zeroValue4
  t5 := Tryz.underlying5
  a5 := Tryz.isAgg5
  z5 := Tryz.sizeOf5
  v5 := Tryz.zeroValue5
  t9 := Tryz.underlying9
  a9 := Tryz.isAgg9
  z9 := Tryz.sizeOf9
  v9 := Tryz.zeroValue9
  t21 := Tryz.underlying21
  a21 := Tryz.isAgg21
  z21 := Tryz.sizeOf21
  v21 := Tryz.zeroValue21
  t31 := Tryz.underlying47
  a31 := Tryz.isAgg47
  z31 := Tryz.sizeOf47
  v31 := Tryz.zeroValue47
  t46 := Tryz.underlying99
  a46 := Tryz.isAgg99
  z46 := Tryz.sizeOf99
  v46 := Tryz.zeroValue99
  t51 := Tryz.underlying234
  a51 := Tryz.isAgg234
  z51 := Tryz.sizeOf234
  v51 := Tryz.zeroValue234
  t105 := Tryz.underlying222
  a105 := Tryz.isAgg222
  z105 := Tryz.sizeOf222
  v105 := Tryz.zeroValue222
  t119 := Tryz.underlying194
  a119 := Tryz.isAgg194
  z119 := Tryz.sizeOf194
  t138 := Tryz.underlying291
  a138 := Tryz.isAgg291
  z138 := Tryz.sizeOf291
  v138 := Tryz.zeroValue291
  t139 := Tryz.underlying292
  a139 := Tryz.isAgg292
  z139 := Tryz.sizeOf292
  v139 := Tryz.zeroValue292
  t146 := Tryz.underlying256
  a146 := Tryz.isAgg256
  z146 := Tryz.sizeOf256
  v146 := Tryz.zeroValue256
  g1 := by kernel_rfl
  g3 := by kernel_rfl
  g4 := by kernel_rfl }
open Go.RowKit Go.Lib in
theorem Tryz.strings_Split (s sep : ByteArray) (m : Int) (w : World) (hs : s.size < 4294967281) (hm : w.cell? ⟨2, 0, none⟩ = some (.int .i64 m)) (h1 : 1 ≤ sep.size) :
    Calls Tryz.prog 46 #[.string s, .string sep] w fun e w' =>
      e = .returned (.slice (some ⟨w.heap.size, 0, none⟩) (Lib.countB s sep + 1) (Lib.countB s sep + 1)) ∧ w' = w.alloc (.cells ((Lib.splitB sep 0 (Lib.countB s sep) s).map Value.string).toArray 9) := Any.strings_Split Tryz.lays146 (by kernel_rfl) s sep m w hs hm h1
def Tryz.lays157_ren : Go.Shelf.Ren := ⟨fun | 157 => 86 | 229 => 133 | 199 => 134 | 261 => 177 | 311 => 208 | 312 => 209 | n => n, fun | 9 => 9 | 31 => 47 | 3 => 3 | 5 => 5 | 4 => 4 | 119 => 194 | 0 => 0 | 40 => 196 | 152 => 231 | 21 => 21 | 154 => 233 | 51 => 234 | 141 => 236 | 196 => 265 | 193 => 262 | 198 => 268 | 49 => 266 | 194 => 263 | 201 => 271 | 226 => 293 | 46 => 99 | 227 => 294 | n => n, fun | 0 => 1 | 6 => 5 | n => n⟩
theorem Tryz.lays157 : Go.Proofs.Lays.n157 Tryz.prog Tryz.lays157_ren := {
  mixed := by kernel_rfl
  f157 := Tryz.func86.trans (congrArg some (by kernel_rfl))
  f199 := Tryz.func134.trans (congrArg some (by kernel_rfl))
  f229 := Tryz.func133.trans (congrArg some (by kernel_rfl))
  f261 := Tryz.func177.trans (congrArg some (by kernel_rfl))
  f311 := Tryz.func208.trans (congrArg some (by kernel_rfl))
  f312 := Tryz.func209.trans (congrArg some (by kernel_rfl))
  t0 := Tryz.underlying0
  a0 := Tryz.isAgg0
  z0 := Tryz.sizeOf0
  v0 := Tryz.zeroValue0
  t3 := Tryz.underlying3
  a3 := Tryz.isAgg3
  z3 := Tryz.sizeOf3
  v3 := Tryz.zeroValue3
  t4 := Tryz.underlying4
  a4 := Tryz.isAgg4
  z4 := Tryz.sizeOf4
  v4 := Tryz.zeroValue4
  t5 := Tryz.underlying5
  a5 := Tryz.isAgg5
  z5 := Tryz.sizeOf5
  v5 := Tryz.zeroValue5
  t9 := Tryz.underlying9
  a9 := Tryz.isAgg9
  z9 := Tryz.sizeOf9
  v9 := Tryz.zeroValue9
  t21 := Tryz.underlying21
  a21 := Tryz.isAgg21
  z21 := Tryz.sizeOf21
  v21 := Tryz.zeroValue21
  t31 := Tryz.underlying47
  a31 := Tryz.isAgg47
  z31 := Tryz.sizeOf47
  v31 := Tryz.zeroValue47
  t40 := Tryz.underlying196
  a40 := Tryz.isAgg196
  z40 := Tryz.sizeOf196
  v40 := Tryz.zeroValue196
  t46 := Tryz.underlying99
  a46 := Tryz.isAgg99
  z46 := Tryz.sizeOf99
  v46 := Tryz.zeroValue99
  t49 := Tryz.underlying266
  a49 := Tryz.isAgg266
  z49 := Tryz.sizeOf266
  v49 := Tryz.zeroValue266
  t51 := Tryz.underlying234
  a51 := Tryz.isAgg234
  z51 := Tryz.sizeOf234
  v51 := Tryz.zeroValue234
  t119 := Tryz.underlying194
  a119 := Tryz.isAgg194
  z119 := Tryz.sizeOf194
  t141 := Tryz.underlying236
  a141 := Tryz.isAgg236
  z141 := Tryz.sizeOf236
  v141 := Tryz.zeroValue236
  t152 := Tryz.underlying231
  a152 := Tryz.isAgg231
  z152 := Tryz.sizeOf231
  v152 := Tryz.zeroValue231
  t154 := Tryz.underlying233
  a154 := Tryz.isAgg233
  z154 := Tryz.sizeOf233
  v154 := Tryz.zeroValue233
  t193 := Tryz.underlying262
  a193 := Tryz.isAgg262
  z193 := Tryz.sizeOf262
  v193 := Tryz.zeroValue262
  t194 := Tryz.underlying263
  a194 := Tryz.isAgg263
  z194 := Tryz.sizeOf263
  v194 := Tryz.zeroValue263
  t196 := Tryz.underlying265
  a196 := Tryz.isAgg265
  z196 := Tryz.sizeOf265
  v196 := Tryz.zeroValue265
  t198 := Tryz.underlying268
  a198 := Tryz.isAgg268
  z198 := Tryz.sizeOf268
  v198 := Tryz.zeroValue268
  t201 := Tryz.underlying271
  a201 := Tryz.isAgg271
  z201 := Tryz.sizeOf271
  v201 := Tryz.zeroValue271
  t226 := Tryz.underlying293
  a226 := Tryz.isAgg293
  z226 := Tryz.sizeOf293
  v226 := Tryz.zeroValue293
  t227 := Tryz.underlying294
  a227 := Tryz.isAgg294
  z227 := Tryz.sizeOf294
  v227 := Tryz.zeroValue294
  g0 := by kernel_rfl
  g6 := by kernel_rfl }
open Go.RowKit Go.Lib in
theorem Tryz.strings_Fields (s : ByteArray) (w : World) (hs : s.size < 4294967281) (hascii : ∀ (j : Nat) b, s.data.toList[j]? = some b → b.toNat < 128) (htab : Lib.TabIs Tryz.prog w "strings.asciiSpace" .u8 Lib.asciiSpaceTab) :
    Calls Tryz.prog 86 #[.string s] w fun e w' =>
      e = .returned (.slice (some ⟨w.heap.size, 0, none⟩) (Lib.fields s.data.toList).length (Lib.fields s.data.toList).length) ∧ w' = w.alloc (.cells ((Lib.fields s.data.toList).map fun l => Value.string ⟨l.toArray⟩).toArray 9) := Any.strings_Fields Tryz.lays157 (by kernel_rfl) (by kernel_rfl) s w hs hascii htab
end Go.Proofs

namespace Go.Proofs.YtbmdmoknnlhdoaaGreatDoor.L
open Go Go.Am Go.Sp Go.Lib Go.RowKit
set_option maxRecDepth 100000

theorem mixed : Tryz.prog.follows .mixedOrders = true := by kernel_rfl
def ow0 : FuncId → Option (List Bool) := fun _ => none
def owF : FuncId → Option (List Bool) := fun f => bif Nat.beq f 86 then some [false] else none
def owR (n : Nat) : FuncId → Option (List Bool) := fun f => bif Nat.beq f 999999999 then some (List.replicate n true) else owF f
def owM (n : Nat) : FuncId → Option (List Bool) := fun f => bif Nat.beq f 131 then some [true, false] else owR n f
structure GP where
  mx : Int
  e1 : Nat
  e2 : Nat
def gl0 (m : GP) : Globs := fun g =>
  bif Nat.beq g 1 then some (256, fun j => .int .u8 (asciiSpaceTab.getD j 0)) else
  bif Nat.beq g 2 then some (1, fun _ => .int .i64 m.mx) else
  bif Nat.beq g 7 then some (20, fun j => .int .u64 (pow10Tab.getD j 0)) else
  bif Nat.beq g 3 then some (1, fun _ => .ifc m.e1 .junk) else
  bif Nat.beq g 4 then some (1, fun _ => .ifc m.e2 .junk) else none
theorem gl_max (m : GP) : gl0 m 2 = some (1, fun _ => .int .i64 m.mx) := rfl
theorem gl_sp (m : GP) : gl0 m 1 = some (256, fun j => .int .u8 (asciiSpaceTab.getD j 0)) := rfl
theorem gl_pow (m : GP) : gl0 m 7 = some (20, fun j => .int .u64 (pow10Tab.getD j 0)) := rfl
theorem gl_syn (m : GP) : gl0 m 3 = some (1, fun _ => .ifc m.e1 .junk) := rfl
theorem gl_rng (m : GP) : gl0 m 4 = some (1, fun _ => .ifc m.e2 .junk) := rfl

theorem split_c (m : GP) (c : UInt8) (s : Str) (hs : s.length < 4294967281) : Pure Tryz.prog (gl0 m) 46 [.str (bs s), .str (bs [c])] (.isl 1 (spl c s).length fun i _ => .str (bs ((spl c s).getD i []))) := by
  refine pure_of ⟨_, _, Tryz.func46, rfl, by kernel_rfl⟩ fun β w vs hf hg ha => ?_
  obtain ⟨u, v, rfl, h1, h2⟩ := rels2 ha
  rw [rel_str_inv h1, rel_str_inv h2]
  refine (Tryz.strings_Split (bs s) (bs [c]) m.mx w hs (glob_cell (hg _ _ _ (gl_max m)) (by decide) rfl) (Nat.le_refl 1)).mono fun e w' hh => ?_
  obtain ⟨he, rfl⟩ := hh
  have hl := splitB_all (bs [c]) (Nat.le_refl 1) 0 (countB (bs s) (bs [c])) (bs s) rfl
  rw [← hl] at he
  have hm := splitB_spl c (bs s)
  have e2 : (splitB (bs [c]) 0 (countB (bs s) (bs [c])) (bs s)).length = (spl c s).length := by rw [← bs_data s, ← hm, List.length_map]
  refine ⟨_, he, alloc_below, ?_⟩
  have r := rel_strs (hf _ (Nat.le_refl _)) (splitB (bs [c]) 0 (countB (bs s) (bs [c])) (bs s)) 9
  have e3 : (fun (i _ : Nat) => AV.str ((splitB (bs [c]) 0 (countB (bs s) (bs [c])) (bs s)).getD i .empty)) = fun i _ => .str (bs ((spl c s).getD i [])) := by
    funext i _
    rw [← bs_data s, ← hm]
    simp only [List.getD_eq_getElem?_getD, List.getElem?_map]
    cases (splitB (bs [c]) 0 (countB (bs s) (bs [c])) (bs s))[i]? with
    | none => rfl
    | some x => rfl
  rw [e3, e2] at r
  rw [e2]
  exact r

theorem itoa_c (m : GP) (n : Int) (hn : -9223372036854775808 ≤ n ∧ n ≤ 9223372036854775807) : Pure Tryz.prog (gl0 m) 35 [.int .i64 n] (.str (bs (itoa n))) := by
  refine pure_of ⟨_, _, Tryz.func35, rfl, by kernel_rfl⟩ fun β w vs hf hg ha => ?_
  obtain ⟨u, rfl, h1⟩ := rels1 ha
  rw [rel_int_inv h1]
  refine (Tryz.strconv_Itoa n hn.1 hn.2 w (glob_tab (by kernel_rfl) (hg _ _ _ (gl_pow m)))).mono fun e w' hh => ?_
  obtain ⟨he, k, os, rfl⟩ := hh
  exact ⟨_, he, ⟨rfl, rfl, rfl, by simp [Sort.grow], fun k hk => (Sort.heap_grow_old (w.drewN k) os hk)⟩, .str⟩

theorem join_c (m : GP) (ws : List Str) (h : (joinS ws).length ≤ 140737488355328) (hn : ws.length ≤ 140737488355328) : Pure Tryz.prog (gl0 m) 70 [.isl 1 ws.length fun i _ => .str (bs (ws.getD i [])), .str (bs [32])] (.str (bs (joinS ws))) := by
  refine pure_of ⟨_, _, Tryz.func70, rfl, by kernel_rfl⟩ fun β w vs hf hg ha => ?_
  obtain ⟨u, v, rfl, h1, h2⟩ := rels2 ha
  obtain ⟨a, cap, rfl, hcap, _, hk⟩ := rel_isl_inv h1
  rw [rel_str_inv h2]
  cases ws with
  | nil =>
    refine (Tryz.strings_Join_none a cap (bs [32]) w).mono fun e w' hh => ?_
    obtain ⟨he, rfl⟩ := hh
    exact ⟨_, he, Below.refl _ _, .str⟩
  | cons x xs =>
    obtain ⟨b, off, vals, rfl, _, _, hc, hr, _⟩ := hk (Nat.succ_pos _)
    have hcell : ∀ (j : Nat) y, ((x :: xs).map bs)[j]? = some y → w.cell? ⟨b, off + j, none⟩ = some (.string y) := fun j y hj => by
      rw [List.getElem?_map, Option.map_eq_some_iff] at hj
      obtain ⟨z, hz, rfl⟩ := hj
      have hlt := (List.getElem?_eq_some_iff.1 hz).1
      have := hc j 0 hlt (by decide)
      rw [Nat.mul_one, Nat.add_zero] at this
      rw [this, rel_str_inv (hr j 0 hlt (by decide)), List.getD_eq_getElem?_getD, hz]; rfl
    have e1 : ((x :: xs).map bs).map (·.data.toList) = x :: xs := by rw [List.map_map]; exact List.map_id _
    have := Tryz.strings_Join b off cap ((x :: xs).map bs) (bs [32]) w hcell (lt_of_cell? (hcell 0 _ rfl)) (by simpa using hn) (by simpa using hcap) (by rw [e1]; exact h)
    rw [e1, List.length_map] at this
    refine this.mono fun e w' hh => ?_
    obtain ⟨he, hb⟩ := hh
    exact ⟨_, he, hb, .str⟩

theorem atoi_c (m : GP) (s : Str) (n : Int) (hs : s.length ≤ 281474976710656) (h : atoiAll s = .ok n) : Pure Tryz.prog (gl0 m) 48 [.str (bs s)] (.tup [.int .i64 n, .raw .nilIface]) := by
  refine pure_of ⟨_, _, Tryz.func48, rfl, by kernel_rfl⟩ fun β w vs hf hg ha => ?_
  obtain ⟨u, rfl, h1⟩ := rels1 ha
  rw [rel_str_inv h1]
  refine (Tryz.strconv_Atoi_ok (bs s) (Nat.le_trans hs (by decide)) n h w).mono fun e w' hh => ?_
  obtain ⟨he, hw⟩ := hh
  refine ⟨_, he, ?_, .tup rfl fun j a v hu hv => ?_⟩
  · rcases hw with rfl | ⟨t, rfl⟩
    · exact Below.refl _ _
    · exact ⟨rfl, rfl, rfl, by rw [bytesWorld_size]; omega, fun k hk => bytesWorld_at_old w 5 t k hk⟩
  · match j, hu, hv with
    | 0, hu, hv => cases hu; cases hv; exact .int
    | 1, hu, hv => cases hu; cases hv; exact .raw (fun cs h => by cases h)

theorem atoi_s (m : GP) (s : Str) (hs : s.length ≤ 281474976710656) (hc : atoiAll s = NumEnd.syntax) : Pure Tryz.prog (gl0 m) 48 [.str (bs s)] (.tup [.int .i64 0, .ifc 188 .junk]) := by
  refine pure_of ⟨_, _, Tryz.func48, rfl, by kernel_rfl⟩ fun β w vs hf hg ha => ?_
  obtain ⟨u, rfl, h1⟩ := rels1 ha
  rw [rel_str_inv h1]
  obtain ⟨v, hv⟩ := glob_ifc (hg _ _ _ (gl_syn m)) (by decide) rfl
  refine (Tryz.strconv_Atoi_syntax (bs s) hs hc _ w hv (.inr ⟨_, _, rfl⟩)).mono fun e w' hh => ?_
  obtain ⟨N, he, _, _, hb⟩ := hh
  refine ⟨_, he, hb, .tup rfl fun j a v hu hv => ?_⟩
  match j, hu, hv with
  | 0, hu, hv => cases hu; cases hv; exact .int
  | 1, hu, hv => cases hu; cases hv; exact .ifc .junk

theorem atoi_r (m : GP) (s : Str) (hs : s.length ≤ 281474976710656) (hc : atoiAll s = .range) : Pure Tryz.prog (gl0 m) 48 [.str (bs s)] (.tup [.int .i64 (atoiSat s), .ifc 188 .junk]) := by
  refine pure_of ⟨_, _, Tryz.func48, rfl, by kernel_rfl⟩ fun β w vs hf hg ha => ?_
  obtain ⟨u, rfl, h1⟩ := rels1 ha
  rw [rel_str_inv h1]
  obtain ⟨v, hv⟩ := glob_ifc (hg _ _ _ (gl_rng m)) (by decide) rfl
  refine (Tryz.strconv_Atoi_range (bs s) hs hc _ w hv (.inr ⟨_, _, rfl⟩)).mono fun e w' hh => ?_
  obtain ⟨N, he, _, _, hb⟩ := hh
  refine ⟨_, he, hb, .tup rfl fun j a v hu hv => ?_⟩
  match j, hu, hv with
  | 0, hu, hv => cases hu; cases hv; exact .int
  | 1, hu, hv => cases hu; cases hv; exact .ifc .junk

theorem fields_g (m : GP) (s : Str) (l : List Str) (R : Rep) (hs : s.length < 4294967281) (ha : ∀ b ∈ s, b.toNat < 128) (hl : fields s = l) (hR : ∀ i, i < l.length → R.at i 0 = .str (bs (l.getD i []))) (hT : R.tyOf = none := by rfl) : Gives Tryz.prog (gl0 m) 86 [] [.str (bs s)] (.osl 0 1 0 l.length) [some ⟨1, l.length, true, R⟩] := by
  subst hl
  have k := gives_strs (l := (fields s).map bs) (R := R) (gl := gl0 m) (args := [.str (bs s)]) ⟨_, _, Tryz.func86, rfl, by kernel_rfl⟩ (fun i hi => by
    rw [List.length_map] at hi
    rw [hR i hi]
    simp [List.getD_eq_getElem?_getD, hi]) fun β w vs hg hh => by
    obtain ⟨u, rfl, h1⟩ := rels1 hh
    rw [rel_str_inv h1]
    refine (Tryz.strings_Fields (bs s) w hs (fun j b hj => ha b (List.mem_of_getElem? hj)) (glob_tab (by kernel_rfl) (hg _ _ _ (gl_sp m)))).mono fun e w' hh => ?_
    obtain ⟨he, rfl⟩ := hh
    exact ⟨by rw [List.length_map]; exact he, _, by rw [List.map_map]; rfl⟩
  rw [List.length_map] at k
  exact k

end Go.Proofs.YtbmdmoknnlhdoaaGreatDoor.L

namespace Go.Proofs.YtbmdmoknnlhdoaaGreatDoor.L
open Go Go.Am Go.Sp Go.Lib
set_option maxRecDepth 100000

theorem num_is {s : Str} {n : Int} (h : atoiAll s = .ok n) : (decide (n ≥ 0) && decide (n ≤ 1099511627776) && decide (itoa n = s)) = (numC s).isSome := by
  unfold numC
  rw [h]
  simp only
  by_cases c : 0 ≤ n ∧ n ≤ 1099511627776 ∧ itoa n = s
  · rw [if_pos c, decide_eq_true c.1, decide_eq_true c.2.1, decide_eq_true c.2.2]; rfl
  · rw [if_neg c]
    cases hd : (decide (n ≥ 0) && decide (n ≤ 1099511627776) && decide (itoa n = s)) with
    | false => rfl
    | true => simp only [Bool.and_eq_true, decide_eq_true_eq] at hd; exact absurd ⟨hd.1.1, hd.1.2, hd.2⟩ c
theorem num_no {s : Str} (h : ∀ n, atoiAll s ≠ .ok n) : (numC s).isSome = false := by
  unfold numC
  split
  · rename_i n e; exact absurd e (h n)
  · rfl

theorem number_1 (m : GP) (s : Str) (n : Int) (hs : s.length ≤ 281474976710656) (h : atoiAll s = .ok n) : Pure Tryz.prog (gl0 m) 132 [.str (bs s)] (.tup [.int .i64 n, .bool (numC s).isSome]) := by
  have c1 := atoi_c m s n hs h
  have c2 := itoa_c m n (atoiAll_bounds h)
  refine pure_sk (own := ow0) Tryz.func132 (by kernel_rfl) mixed (by kernel_rfl)
    (.dc (true) 48 ([AV.str (bs s)]) (AV.tup [Zi n, AV.raw Value.nilIface]) (.sc ((decide (n ≥ (0 : Int)) && decide (n ≤ (1099511627776 : Int))) == true) 35 ([Zi n]) (AV.str (bs (itoa n))) (.out (AV.tup [Zi n, AV.bool (decide (n ≥ (0 : Int)) && decide (n ≤ (1099511627776 : Int)) && ByteArray.toList (bs (itoa n)) == ByteArray.toList (bs s))]) [] (AV.tup [Zi n, AV.bool (Option.isSome (numC s))]) [])))
    (by kernel_rfl) ?_
  refine k_dc (c1) ?_
  refine k_scg (fun h1 => c2) ?_
  exact k_out (Ent.of_eq (by rw [eqSt, num_is h]))

theorem number_2 (m : GP) (s : Str) (k : Int) (h : ∀ n, atoiAll s ≠ .ok n) (c1 : Pure Tryz.prog (gl0 m) 48 [.str (bs s)] (.tup [.int .i64 k, .ifc 188 .junk])) (hk : -9223372036854775808 ≤ k ∧ k ≤ 9223372036854775807) : Pure Tryz.prog (gl0 m) 132 [.str (bs s)] (.tup [.int .i64 k, .bool (numC s).isSome]) := by
  have c2 := itoa_c m k hk
  refine pure_sk (own := ow0) Tryz.func132 (by kernel_rfl) mixed (by kernel_rfl)
    (.dc (true) 48 ([AV.str (bs s)]) (AV.tup [Zi k, AV.ifc (188 : TypeId) AV.junk]) (.sc (false == true) 35 ([Zi k]) (AV.str (bs (itoa k))) (.out (AV.tup [Zi k, AV.bool false]) [] (AV.tup [Zi k, AV.bool (Option.isSome (numC s))]) [])))
    (by kernel_rfl) ?_
  refine k_dc (c1) ?_
  refine k_scg (fun h1 => c2) ?_
  exact k_out (Ent.of_eq (by rw [num_no h]))

theorem number_c (m : GP) (s : Str) (hs : s.length ≤ 281474976710656) : Pure Tryz.prog (gl0 m) 132 [.str (bs s)] (.tup [.int .i64 (numVal s), .bool (numC s).isSome]) := by
  have hb := atoiSat_bounds s
  unfold numVal
  rcases hc : atoiAll s with n | _ | _
  · exact number_1 m s n hs hc
  · exact number_2 m s 0 (fun n e => by rw [hc] at e; cases e) (atoi_s m s hs hc) (by decide)
  · exact number_2 m s (atoiSat s) (fun n e => by rw [hc] at e; cases e) (atoi_r m s hs hc) hb

theorem field_1 (m : GP) (c0 c1 c2 c3 : Int) (c4 : Bool) : Gives Tryz.prog (gl0 m) 131 [⟨5, 1, true, .lst [[.int .i64 c0, .int .i64 c1, .int .i64 c2, .int .i64 c3, .bool c4]]⟩] [.own 0 5 0 0 5, .str (bs wWho)] (.own 0 5 0 1 1) [some ⟨5, 1, true, .lst [[.int .i64 c0, .int .i64 c1, .int .i64 c2, .int .i64 c3, .bool c4]]⟩] := by
  refine gives_sk (own := ow0) (hand := true) Tryz.func131 (by kernel_rfl) mixed (by kernel_rfl)
    (.tt (.out (AV.own (0) (5) (0) (1) (1)) ([some { es := 5, n := 1, mu := true, f := Rep.lst [[Zi c0, Zi c1, Zi c2, Zi c3, AV.bool c4]] }]) (AV.own (0 : Nat) (5 : Nat) (0 : Nat) (1 : Nat) (1 : Nat)) ([some { es := (5 : Nat), n := (1 : Nat), mu := true, f := Rep.lst [[Zi c0, Zi c1, Zi c2, Zi c3, AV.bool c4]] }])))
    (by kernel_rfl) ?_
  refine k_tt ?_
  exact k_outg (Ent.of_eq (by first | rfl | simp_all)) (by repeat' (first | exact trivial | (first | exact ObEnt.refl _ | exact ObEnt.junk | exact ObEnt.zero | exact ObEnt.push rfl rfl | exact ObEnt.pushRow rfl | exact ObEnt.len (by omega) | exact ObEnt.row (by repeat' (first | exact trivial | (first | exact Ent.refl _ | exact inc_ent (by omega) | exact Ent.nil rfl | exact Ent.of_eq (congrArg (AV.osl _ _ _) (by first | omega | (dsimp only; omega))) | exact Ent.of_eq (congrArg (AV.int _) (by first | omega | (dsimp only; omega)))) | refine And.intro ?_ ?_))) | refine And.intro ?_ ?_))

theorem field_2 (m : GP) (c0 c1 c2 c3 : Int) (c4 : Bool) : Gives Tryz.prog (gl0 m) 131 [⟨5, 1, true, .lst [[.int .i64 c0, .int .i64 c1, .int .i64 c2, .int .i64 c3, .bool c4]]⟩] [.own 0 5 0 0 5, .str (bs wWhom)] (.own 0 5 0 2 1) [some ⟨5, 1, true, .lst [[.int .i64 c0, .int .i64 c1, .int .i64 c2, .int .i64 c3, .bool c4]]⟩] := by
  refine gives_sk (own := ow0) (hand := true) Tryz.func131 (by kernel_rfl) mixed (by kernel_rfl)
    (.ff (.tt (.out (AV.own (0) (5) (0) (2) (1)) ([some { es := 5, n := 1, mu := true, f := Rep.lst [[Zi c0, Zi c1, Zi c2, Zi c3, AV.bool c4]] }]) (AV.own (0 : Nat) (5 : Nat) (0 : Nat) (2 : Nat) (1 : Nat)) ([some { es := (5 : Nat), n := (1 : Nat), mu := true, f := Rep.lst [[Zi c0, Zi c1, Zi c2, Zi c3, AV.bool c4]] }]))))
    (by kernel_rfl) ?_
  refine k_ff ?_
  refine k_tt ?_
  exact k_outg (Ent.of_eq (by first | rfl | simp_all)) (by repeat' (first | exact trivial | (first | exact ObEnt.refl _ | exact ObEnt.junk | exact ObEnt.zero | exact ObEnt.push rfl rfl | exact ObEnt.pushRow rfl | exact ObEnt.len (by omega) | exact ObEnt.row (by repeat' (first | exact trivial | (first | exact Ent.refl _ | exact inc_ent (by omega) | exact Ent.nil rfl | exact Ent.of_eq (congrArg (AV.osl _ _ _) (by first | omega | (dsimp only; omega))) | exact Ent.of_eq (congrArg (AV.int _) (by first | omega | (dsimp only; omega)))) | refine And.intro ?_ ?_))) | refine And.intro ?_ ?_))

theorem field_3 (m : GP) (c0 c1 c2 c3 : Int) (c4 : Bool) : Gives Tryz.prog (gl0 m) 131 [⟨5, 1, true, .lst [[.int .i64 c0, .int .i64 c1, .int .i64 c2, .int .i64 c3, .bool c4]]⟩] [.own 0 5 0 0 5, .str (bs wAmount)] (.own 0 5 0 3 1) [some ⟨5, 1, true, .lst [[.int .i64 c0, .int .i64 c1, .int .i64 c2, .int .i64 c3, .bool c4]]⟩] := by
  refine gives_sk (own := ow0) (hand := true) Tryz.func131 (by kernel_rfl) mixed (by kernel_rfl)
    (.ff (.ff (.tt (.out (AV.own (0) (5) (0) (3) (1)) ([some { es := 5, n := 1, mu := true, f := Rep.lst [[Zi c0, Zi c1, Zi c2, Zi c3, AV.bool c4]] }]) (AV.own (0 : Nat) (5 : Nat) (0 : Nat) (3 : Nat) (1 : Nat)) ([some { es := (5 : Nat), n := (1 : Nat), mu := true, f := Rep.lst [[Zi c0, Zi c1, Zi c2, Zi c3, AV.bool c4]] }])))))
    (by kernel_rfl) ?_
  refine k_ff ?_
  refine k_ff ?_
  refine k_tt ?_
  exact k_outg (Ent.of_eq (by first | rfl | simp_all)) (by repeat' (first | exact trivial | (first | exact ObEnt.refl _ | exact ObEnt.junk | exact ObEnt.zero | exact ObEnt.push rfl rfl | exact ObEnt.pushRow rfl | exact ObEnt.len (by omega) | exact ObEnt.row (by repeat' (first | exact trivial | (first | exact Ent.refl _ | exact inc_ent (by omega) | exact Ent.nil rfl | exact Ent.of_eq (congrArg (AV.osl _ _ _) (by first | omega | (dsimp only; omega))) | exact Ent.of_eq (congrArg (AV.int _) (by first | omega | (dsimp only; omega)))) | refine And.intro ?_ ?_))) | refine And.intro ?_ ?_))

theorem field_0 (m : GP) (c0 c1 c2 c3 : Int) (c4 : Bool) (w : Str) (n1 : w ≠ wWho) (n2 : w ≠ wWhom) (n3 : w ≠ wAmount) : Gives Tryz.prog (gl0 m) 131 [⟨5, 1, true, .lst [[.int .i64 c0, .int .i64 c1, .int .i64 c2, .int .i64 c3, .bool c4]]⟩] [.own 0 5 0 0 5, .str (bs w)] (.raw (.pointer none)) [some ⟨5, 1, true, .lst [[.int .i64 c0, .int .i64 c1, .int .i64 c2, .int .i64 c3, .bool c4]]⟩] := by
  refine gives_sk (own := ow0) (hand := true) Tryz.func131 (by kernel_rfl) mixed (by kernel_rfl)
    (.br (ByteArray.toList (bs w) == ByteArray.toList { data := #[(87 : UInt8), (72 : UInt8), (79 : UInt8)] }) (.out (AV.own (0) (5) (0) (1) (1)) ([some { es := 5, n := 1, mu := true, f := Rep.lst [[Zi c0, Zi c1, Zi c2, Zi c3, AV.bool c4]] }]) (AV.raw (Value.pointer none)) ([some { es := (5 : Nat), n := (1 : Nat), mu := true, f := Rep.lst [[Zi c0, Zi c1, Zi c2, Zi c3, AV.bool c4]] }])) (.br (ByteArray.toList (bs w) == ByteArray.toList { data := #[(87 : UInt8), (72 : UInt8), (79 : UInt8), (77 : UInt8)] }) (.out (AV.own (0) (5) (0) (2) (1)) ([some { es := 5, n := 1, mu := true, f := Rep.lst [[Zi c0, Zi c1, Zi c2, Zi c3, AV.bool c4]] }]) (AV.raw (Value.pointer none)) ([some { es := (5 : Nat), n := (1 : Nat), mu := true, f := Rep.lst [[Zi c0, Zi c1, Zi c2, Zi c3, AV.bool c4]] }])) (.br (ByteArray.toList (bs w) == ByteArray.toList { data := #[(65 : UInt8), (77 : UInt8), (79 : UInt8), (85 : UInt8), (78 : UInt8), (84 : UInt8)] }) (.out (AV.own (0) (5) (0) (3) (1)) ([some { es := 5, n := 1, mu := true, f := Rep.lst [[Zi c0, Zi c1, Zi c2, Zi c3, AV.bool c4]] }]) (AV.raw (Value.pointer none)) ([some { es := (5 : Nat), n := (1 : Nat), mu := true, f := Rep.lst [[Zi c0, Zi c1, Zi c2, Zi c3, AV.bool c4]] }])) (.out (AV.raw (Value.pointer none)) ([some { es := 5, n := 1, mu := true, f := Rep.lst [[Zi c0, Zi c1, Zi c2, Zi c3, AV.bool c4]] }]) (AV.raw (Value.pointer none)) ([some { es := (5 : Nat), n := (1 : Nat), mu := true, f := Rep.lst [[Zi c0, Zi c1, Zi c2, Zi c3, AV.bool c4]] }])))))
    (by kernel_rfl) ?_
  refine k_br (fun h0 => ?_) (fun h0 => ?_)
  · have g0 := cnd_id_t h0
    exact k_outg ((by exfalso; rw [eqSt] at h0; exact n1 (of_decide_eq_true h0))) (by repeat' (first | exact trivial | (first | exact ObEnt.refl _ | exact ObEnt.junk | exact ObEnt.zero | exact ObEnt.push rfl rfl | exact ObEnt.pushRow rfl | exact ObEnt.len (by omega) | exact ObEnt.row (by repeat' (first | exact trivial | (first | exact Ent.refl _ | exact inc_ent (by omega) | exact Ent.nil rfl | exact Ent.of_eq (congrArg (AV.osl _ _ _) (by first | omega | (dsimp only; omega))) | exact Ent.of_eq (congrArg (AV.int _) (by first | omega | (dsimp only; omega)))) | refine And.intro ?_ ?_))) | refine And.intro ?_ ?_))
  · have g0 := cnd_id_f h0
    refine k_br (fun h2 => ?_) (fun h2 => ?_)
    · have g2 := cnd_id_t h2
      exact k_outg ((by exfalso; rw [eqSt] at h2; exact n2 (of_decide_eq_true h2))) (by repeat' (first | exact trivial | (first | exact ObEnt.refl _ | exact ObEnt.junk | exact ObEnt.zero | exact ObEnt.push rfl rfl | exact ObEnt.pushRow rfl | exact ObEnt.len (by omega) | exact ObEnt.row (by repeat' (first | exact trivial | (first | exact Ent.refl _ | exact inc_ent (by omega) | exact Ent.nil rfl | exact Ent.of_eq (congrArg (AV.osl _ _ _) (by first | omega | (dsimp only; omega))) | exact Ent.of_eq (congrArg (AV.int _) (by first | omega | (dsimp only; omega)))) | refine And.intro ?_ ?_))) | refine And.intro ?_ ?_))
    · have g2 := cnd_id_f h2
      refine k_br (fun h4 => ?_) (fun h4 => ?_)
      · have g4 := cnd_id_t h4
        exact k_outg ((by exfalso; rw [eqSt] at h4; exact n3 (of_decide_eq_true h4))) (by repeat' (first | exact trivial | (first | exact ObEnt.refl _ | exact ObEnt.junk | exact ObEnt.zero | exact ObEnt.push rfl rfl | exact ObEnt.pushRow rfl | exact ObEnt.len (by omega) | exact ObEnt.row (by repeat' (first | exact trivial | (first | exact Ent.refl _ | exact inc_ent (by omega) | exact Ent.nil rfl | exact Ent.of_eq (congrArg (AV.osl _ _ _) (by first | omega | (dsimp only; omega))) | exact Ent.of_eq (congrArg (AV.int _) (by first | omega | (dsimp only; omega)))) | refine And.intro ?_ ?_))) | refine And.intro ?_ ?_))
      · have g4 := cnd_id_f h4
        exact k_outg (Ent.of_eq (by first | rfl | simp_all)) (by repeat' (first | exact trivial | (first | exact ObEnt.refl _ | exact ObEnt.junk | exact ObEnt.zero | exact ObEnt.push rfl rfl | exact ObEnt.pushRow rfl | exact ObEnt.len (by omega) | exact ObEnt.row (by repeat' (first | exact trivial | (first | exact Ent.refl _ | exact inc_ent (by omega) | exact Ent.nil rfl | exact Ent.of_eq (congrArg (AV.osl _ _ _) (by first | omega | (dsimp only; omega))) | exact Ent.of_eq (congrArg (AV.int _) (by first | omega | (dsimp only; omega)))) | refine And.intro ?_ ?_))) | refine And.intro ?_ ?_))


theorem fd (w : Str) (h : (w != wWho && w != wWhom && w != wAmount) = true) : w ≠ wWho ∧ w ≠ wWhom ∧ w ≠ wAmount := by
  simp only [Bool.and_eq_true, bne_iff_ne] at h; exact ⟨h.1.1, h.1.2, h.2⟩
theorem getD_len {ws : List Str} {k n : Nat} (h : ∀ w ∈ ws, w.length ≤ n) : (ws.getD k []).length ≤ n := by
  rw [List.getD_eq_getElem?_getD]
  cases e : ws[k]? with
  | none => exact Nat.zero_le _
  | some x => exact h x (List.mem_of_getElem? e)
theorem rowsE (l : List Str) : ∀ i, i < l.length → (Rep.lst (l.map fun w => [AV.str (bs w)])).at i 0 = .str (bs (l.getD i [])) := fun i hi => by
  show atL ((l.map fun w => [AV.str (bs w)]).getD i []) 0 = _
  simp [List.getD_eq_getElem?_getD, hi, atL]
def wlA (ws : List Str) : AV := .isl 1 ws.length fun i _ => .str (bs (ws.getD i []))

def wf0 : Str := [119, 105, 116, 104, 100, 114, 97, 119, 32, 87, 72, 79, 32, 65, 77, 79, 85, 78, 84]
theorem fields_0 (m : GP) : Gives Tryz.prog (gl0 m) 86 [] [.str (bs wf0)] (.osl 0 1 0 3) [some ⟨1, 3, true, .lst [[.str (bs wWithdraw)], [.str (bs wWho)], [.str (bs wAmount)]]⟩] :=
  fields_g m wf0 [wWithdraw, wWho, wAmount] _ (by decide) (by decide) (by decide +kernel) (rowsE _)
def wf1 : Str := [112, 97, 121, 32, 87, 72, 79, 32, 87, 72, 79, 77, 32, 65, 77, 79, 85, 78, 84]
theorem fields_1 (m : GP) : Gives Tryz.prog (gl0 m) 86 [] [.str (bs wf1)] (.osl 0 1 0 4) [some ⟨1, 4, true, .lst [[.str (bs wPay)], [.str (bs wWho)], [.str (bs wWhom)], [.str (bs wAmount)]]⟩] :=
  fields_g m wf1 [wPay, wWho, wWhom, wAmount] _ (by decide) (by decide) (by decide +kernel) (rowsE _)
def wf2 : Str := [116, 114, 97, 110, 115, 102, 101, 114, 32, 87, 72, 79, 32, 87, 72, 79, 77, 32, 65, 77, 79, 85, 78, 84]
theorem fields_2 (m : GP) : Gives Tryz.prog (gl0 m) 86 [] [.str (bs wf2)] (.osl 0 1 0 4) [some ⟨1, 4, true, .lst [[.str (bs wTransfer)], [.str (bs wWho)], [.str (bs wWhom)], [.str (bs wAmount)]]⟩] :=
  fields_g m wf2 [wTransfer, wWho, wWhom, wAmount] _ (by decide) (by decide) (by decide +kernel) (rowsE _)
def wf3 : Str := [100, 101, 112, 111, 115, 105, 116, 32, 109, 101, 114, 99, 104, 97, 110, 116, 32, 87, 72, 79]
theorem fields_3 (m : GP) : Gives Tryz.prog (gl0 m) 86 [] [.str (bs wf3)] (.osl 0 1 0 3) [some ⟨1, 3, true, .lst [[.str (bs wDeposit)], [.str (bs wMerchant)], [.str (bs wWho)]]⟩] :=
  fields_g m wf3 [wDeposit, wMerchant, wWho] _ (by decide) (by decide) (by decide +kernel) (rowsE _)
def wf4 : Str := [100, 101, 112, 111, 115, 105, 116, 32, 104, 111, 108, 100, 101, 114, 32, 87, 72, 79]
theorem fields_4 (m : GP) : Gives Tryz.prog (gl0 m) 86 [] [.str (bs wf4)] (.osl 0 1 0 3) [some ⟨1, 3, true, .lst [[.str (bs wDeposit)], [.str (bs wHolder)], [.str (bs wWho)]]⟩] :=
  fields_g m wf4 [wDeposit, wHolder, wWho] _ (by decide) (by decide) (by decide +kernel) (rowsE _)
def wf5 : Str := [100, 111, 117, 98, 108, 101, 32, 87, 72, 79, 32, 87, 72, 79, 77, 32, 65, 77, 79, 85, 78, 84]
theorem fields_5 (m : GP) : Gives Tryz.prog (gl0 m) 86 [] [.str (bs wf5)] (.osl 0 1 0 4) [some ⟨1, 4, true, .lst [[.str (bs wDouble)], [.str (bs wWho)], [.str (bs wWhom)], [.str (bs wAmount)]]⟩] :=
  fields_g m wf5 [wDouble, wWho, wWhom, wAmount] _ (by decide) (by decide) (by decide +kernel) (rowsE _)
def wf6 : Str := [116, 114, 97, 99, 101, 32, 87, 72, 79]
theorem fields_6 (m : GP) : Gives Tryz.prog (gl0 m) 86 [] [.str (bs wf6)] (.osl 0 1 0 2) [some ⟨1, 2, true, .lst [[.str (bs wTrace)], [.str (bs wWho)]]⟩] :=
  fields_g m wf6 [wTrace, wWho] _ (by decide) (by decide) (by decide +kernel) (rowsE _)
def wf7 : Str := [99, 108, 101, 97, 114]
theorem fields_7 (m : GP) : Gives Tryz.prog (gl0 m) 86 [] [.str (bs wf7)] (.osl 0 1 0 1) [some ⟨1, 1, true, .lst [[.str (bs wClear)]]⟩] :=
  fields_g m wf7 [wClear] _ (by decide) (by decide) (by decide +kernel) (rowsE _)
def wf8 : Str := [116, 105, 99, 107, 32, 65, 77, 79, 85, 78, 84]
theorem fields_8 (m : GP) : Gives Tryz.prog (gl0 m) 86 [] [.str (bs wf8)] (.osl 0 1 0 2) [some ⟨1, 2, true, .lst [[.str (bs wTick)], [.str (bs wAmount)]]⟩] :=
  fields_g m wf8 [wTick, wAmount] _ (by decide) (by decide) (by decide +kernel) (rowsE _)

theorem match_0 (m : GP) (ws : List Str) (hw : ∀ w ∈ ws, w.length ≤ 281474976710656) (hn : ws.length < 9223372036854775808) : Pure Tryz.prog (gl0 m) 85 [.agg [.int .i64 1, .str (bs wf0), .int .i64 0], wlA ws] (.tup [.agg (Cmd.cells ((matchF ⟨1, [wWithdraw, wWho, wAmount], 0⟩ ws).getD .zero)), .bool (matchF ⟨1, [wWithdraw, wWho, wAmount], 0⟩ ws).isSome]) := by
  have c0 := fields_0 m
  have f0 := fun c0 c1 c2 c3 c4 => field_0 m c0 c1 c2 c3 c4 wWithdraw (fd _ (by decide)).1 (fd _ (by decide)).2.1 (fd _ (by decide)).2.2
  have n1 := number_c m (ws.getD 1 []) (getD_len hw)
  have n2 := number_c m (ws.getD 2 []) (getD_len hw)
  refine pure_sk (own := (owM 5)) Tryz.func85 (by kernel_rfl) mixed (by kernel_rfl)
    (.gc 86 ([]) ([AV.str (bs wf0)]) (AV.osl (0 : Nat) (1 : Nat) (0 : Nat) (3 : Nat)) ([some { es := (1 : Nat), n := (3 : Nat), mu := true, f := Rep.lst [[AV.str (bs wWithdraw)], [AV.str (bs wWho)], [AV.str (bs wAmount)]] }]) (.br ((↑(List.length ws) : Int) != (↑(3) : Int)) (.out (AV.tup [AV.agg [Zi 0, Zi 0, Zi 0, Zi 0, AV.bool false], AV.bool false]) [] (AV.tup [AV.agg (Cmd.cells (Option.getD (matchF { kind := (1 : Int), ws := [wWithdraw, wWho, wAmount], whom := (0 : Int) } ws) Cmd.zero)), AV.bool (Option.isSome (matchF { kind := (1 : Int), ws := [wWithdraw, wWho, wAmount], whom := (0 : Int) } ws))]) []) (.tt (.req ((0 : Int) ≤ (0 : Int) ∧ (0 : Int) < (↑(3) : Int)) (.gc 131 ([{ es := 5, n := 1, mu := true, f := Rep.lst [[Zi 1, Zi 0, Zi 0, Zi 0, AV.bool true]] }]) ([AV.own (0) (5) (0) (0) (5), AV.str (bs wWithdraw)]) (AV.raw (Value.pointer none)) ([some { es := (5 : Nat), n := (1 : Nat), mu := true, f := Rep.lst [[Zi 1, Zi 0, Zi 0, Zi 0, AV.bool true]] }]) (.tt (.req ((0 : Int) ≤ (0 : Int) ∧ (0 : Int) < (↑(List.length ws) : Int)) (.br (!ByteArray.toList (bs (List.getD ws (Int.toNat (0 : Int)) [])) == ByteArray.toList (bs wWithdraw)) (.out (AV.tup [AV.agg [Zi 0, Zi 0, Zi 0, Zi 0, AV.bool false], AV.bool false]) [] (AV.tup [AV.agg (Cmd.cells (Option.getD (matchF { kind := (1 : Int), ws := [wWithdraw, wWho, wAmount], whom := (0 : Int) } ws) Cmd.zero)), AV.bool (Option.isSome (matchF { kind := (1 : Int), ws := [wWithdraw, wWho, wAmount], whom := (0 : Int) } ws))]) []) (.tt (.req ((0 : Int) ≤ IntKind.wrap IntKind.i64 ((0 : Int) + (1 : Int)) ∧ IntKind.wrap IntKind.i64 ((0 : Int) + (1 : Int)) < (↑(3) : Int)) (.gc 131 ([{ es := 5, n := 1, mu := true, f := Rep.lst [[Zi 1, Zi 0, Zi 0, Zi 0, AV.bool true]] }]) ([AV.own (0) (5) (0) (0) (5), AV.str (bs wWho)]) (AV.own (0 : Nat) (5 : Nat) (0 : Nat) (1 : Nat) (1 : Nat)) ([some { es := (5 : Nat), n := (1 : Nat), mu := true, f := Rep.lst [[Zi 1, Zi 0, Zi 0, Zi 0, AV.bool true]] }]) (.ff (.req ((0 : Int) ≤ IntKind.wrap IntKind.i64 ((0 : Int) + (1 : Int)) ∧ IntKind.wrap IntKind.i64 ((0 : Int) + (1 : Int)) < (↑(List.length ws) : Int)) (.sc (true) 132 ([AV.str (bs (List.getD ws (1) []))]) (AV.tup [Zi (numVal (List.getD ws (1 : Nat) [])), AV.bool (Option.isSome (numC (List.getD ws (1 : Nat) [])))]) (.br (!Option.isSome (numC (List.getD ws (1) []))) (.out (AV.tup [AV.agg [Zi 0, Zi 0, Zi 0, Zi 0, AV.bool false], AV.bool false]) [] (AV.tup [AV.agg (Cmd.cells (Option.getD (matchF { kind := (1 : Int), ws := [wWithdraw, wWho, wAmount], whom := (0 : Int) } ws) Cmd.zero)), AV.bool (Option.isSome (matchF { kind := (1 : Int), ws := [wWithdraw, wWho, wAmount], whom := (0 : Int) } ws))]) []) (.tt (.req ((0 : Int) ≤ IntKind.wrap IntKind.i64 (IntKind.wrap IntKind.i64 ((0 : Int) + (1 : Int)) + (1 : Int)) ∧ IntKind.wrap IntKind.i64 (IntKind.wrap IntKind.i64 ((0 : Int) + (1 : Int)) + (1 : Int)) < (↑(3) : Int)) (.gc 131 ([{ es := 5, n := 1, mu := true, f := Rep.lst [[Zi 1, Zi (numVal (List.getD ws (1 : Nat) [])), Zi 0, Zi 0, AV.bool true]] }]) ([AV.own (0) (5) (0) (0) (5), AV.str (bs wAmount)]) (AV.own (0 : Nat) (5 : Nat) (0 : Nat) (3 : Nat) (1 : Nat)) ([some { es := (5 : Nat), n := (1 : Nat), mu := true, f := Rep.lst [[Zi 1, Zi (numVal (List.getD ws (1 : Nat) [])), Zi 0, Zi 0, AV.bool true]] }]) (.ff (.req ((0 : Int) ≤ IntKind.wrap IntKind.i64 (IntKind.wrap IntKind.i64 ((0 : Int) + (1 : Int)) + (1 : Int)) ∧ IntKind.wrap IntKind.i64 (IntKind.wrap IntKind.i64 ((0 : Int) + (1 : Int)) + (1 : Int)) < (↑(List.length ws) : Int)) (.sc (true) 132 ([AV.str (bs (List.getD ws (2) []))]) (AV.tup [Zi (numVal (List.getD ws (2 : Nat) [])), AV.bool (Option.isSome (numC (List.getD ws (2 : Nat) [])))]) (.br (!Option.isSome (numC (List.getD ws (2) []))) (.out (AV.tup [AV.agg [Zi 0, Zi 0, Zi 0, Zi 0, AV.bool false], AV.bool false]) [] (AV.tup [AV.agg (Cmd.cells (Option.getD (matchF { kind := (1 : Int), ws := [wWithdraw, wWho, wAmount], whom := (0 : Int) } ws) Cmd.zero)), AV.bool (Option.isSome (matchF { kind := (1 : Int), ws := [wWithdraw, wWho, wAmount], whom := (0 : Int) } ws))]) []) (.ff (.out (AV.tup [AV.agg [Zi 1, Zi (numVal (List.getD ws (1) [])), Zi 0, Zi (numVal (List.getD ws (2) [])), AV.bool true], AV.bool true]) [] (AV.tup [AV.agg (Cmd.cells (Option.getD (matchF { kind := (1 : Int), ws := [wWithdraw, wWho, wAmount], whom := (0 : Int) } ws) Cmd.zero)), AV.bool (Option.isSome (matchF { kind := (1 : Int), ws := [wWithdraw, wWho, wAmount], whom := (0 : Int) } ws))]) []))))))))))))))))))))))))
    (by kernel_rfl) ?_
  refine k_gc (c0) ?_
  refine k_br (fun h1 => ?_) (fun h1 => ?_)
  · have g1 := cnd_bne_t h1
    exact k_out (Ent.of_eq (by first | exact mO (nLen 3 rfl (by assumption)) | exact mO (nWord 0 wWithdraw rfl (by decide) (by assumption)) | exact mO (nNum 1 wWho rfl (by decide) (by assumption)) | exact mO (nNum 2 wAmount rfl (by decide) (by assumption)) | (have h := s1 (k := 1) (b := true) (W := wWithdraw) (by decide) (by assumption) (by assumption) (by assumption) (by assumption); rw [show matchF ⟨1, [wWithdraw, wWho, wAmount], 0⟩ ws = _ from h]; rfl)))
  · have g1 := cnd_bne_f h1
    refine k_tt ?_
    refine k_req ((by first | omega | decide | (rw [g1]; decide))) ?_
    refine k_gc (f0 ((1 : Int)) ((0 : Int)) ((0 : Int)) ((0 : Int)) (true)) ?_
    refine k_tt ?_
    refine k_req ((by first | omega | decide | (rw [g1]; decide))) ?_
    refine k_br (fun h8 => ?_) (fun h8 => ?_)
    · have g8 := (cnd_not_t cnd_id_f) h8
      exact k_out (Ent.of_eq (by first | exact mO (nLen 3 rfl (by assumption)) | exact mO (nWord 0 wWithdraw rfl (by decide) (by assumption)) | exact mO (nNum 1 wWho rfl (by decide) (by assumption)) | exact mO (nNum 2 wAmount rfl (by decide) (by assumption)) | (have h := s1 (k := 1) (b := true) (W := wWithdraw) (by decide) (by assumption) (by assumption) (by assumption) (by assumption); rw [show matchF ⟨1, [wWithdraw, wWho, wAmount], 0⟩ ws = _ from h]; rfl)))
    · have g8 := (cnd_not_f cnd_id_t) h8
      refine k_tt ?_
      refine k_req ((by first | omega | decide | (rw [g1]; decide))) ?_
      refine k_gc ((field_1 m) ((1 : Int)) ((0 : Int)) ((0 : Int)) ((0 : Int)) (true)) ?_
      refine k_ff ?_
      refine k_req ((by first | omega | decide | (rw [g1]; decide))) ?_
      refine k_sc (n1) ?_
      refine k_br (fun h16 => ?_) (fun h16 => ?_)
      · have g16 := (cnd_not_t cnd_id_f) h16
        exact k_out (Ent.of_eq (by first | exact mO (nLen 3 rfl (by assumption)) | exact mO (nWord 0 wWithdraw rfl (by decide) (by assumption)) | exact mO (nNum 1 wWho rfl (by decide) (by assumption)) | exact mO (nNum 2 wAmount rfl (by decide) (by assumption)) | (have h := s1 (k := 1) (b := true) (W := wWithdraw) (by decide) (by assumption) (by assumption) (by assumption) (by assumption); rw [show matchF ⟨1, [wWithdraw, wWho, wAmount], 0⟩ ws = _ from h]; rfl)))
      · have g16 := (cnd_not_f cnd_id_t) h16
        refine k_tt ?_
        refine k_req ((by first | omega | decide | (rw [g1]; decide))) ?_
        refine k_gc ((field_3 m) ((1 : Int)) (numVal (List.getD ws (1 : Nat) [])) ((0 : Int)) ((0 : Int)) (true)) ?_
        refine k_ff ?_
        refine k_req ((by first | omega | decide | (rw [g1]; decide))) ?_
        refine k_sc (n2) ?_
        refine k_br (fun h24 => ?_) (fun h24 => ?_)
        · have g24 := (cnd_not_t cnd_id_f) h24
          exact k_out (Ent.of_eq (by first | exact mO (nLen 3 rfl (by assumption)) | exact mO (nWord 0 wWithdraw rfl (by decide) (by assumption)) | exact mO (nNum 1 wWho rfl (by decide) (by assumption)) | exact mO (nNum 2 wAmount rfl (by decide) (by assumption)) | (have h := s1 (k := 1) (b := true) (W := wWithdraw) (by decide) (by assumption) (by assumption) (by assumption) (by assumption); rw [show matchF ⟨1, [wWithdraw, wWho, wAmount], 0⟩ ws = _ from h]; rfl)))
        · have g24 := (cnd_not_f cnd_id_t) h24
          refine k_ff ?_
          exact k_out (Ent.of_eq (by first | exact mO (nLen 3 rfl (by assumption)) | exact mO (nWord 0 wWithdraw rfl (by decide) (by assumption)) | exact mO (nNum 1 wWho rfl (by decide) (by assumption)) | exact mO (nNum 2 wAmount rfl (by decide) (by assumption)) | (have h := s1 (k := 1) (b := true) (W := wWithdraw) (by decide) (by assumption) (by assumption) (by assumption) (by assumption); rw [show matchF ⟨1, [wWithdraw, wWho, wAmount], 0⟩ ws = _ from h]; rfl)))

theorem match_1 (m : GP) (ws : List Str) (hw : ∀ w ∈ ws, w.length ≤ 281474976710656) (hn : ws.length < 9223372036854775808) : Pure Tryz.prog (gl0 m) 85 [.agg [.int .i64 2, .str (bs wf1), .int .i64 0], wlA ws] (.tup [.agg (Cmd.cells ((matchF ⟨2, [wPay, wWho, wWhom, wAmount], 0⟩ ws).getD .zero)), .bool (matchF ⟨2, [wPay, wWho, wWhom, wAmount], 0⟩ ws).isSome]) := by
  have c0 := fields_1 m
  have f0 := fun c0 c1 c2 c3 c4 => field_0 m c0 c1 c2 c3 c4 wPay (fd _ (by decide)).1 (fd _ (by decide)).2.1 (fd _ (by decide)).2.2
  have n1 := number_c m (ws.getD 1 []) (getD_len hw)
  have n2 := number_c m (ws.getD 2 []) (getD_len hw)
  have n3 := number_c m (ws.getD 3 []) (getD_len hw)
  refine pure_sk (own := (owM 5)) Tryz.func85 (by kernel_rfl) mixed (by kernel_rfl)
    (.gc 86 ([]) ([AV.str (bs wf1)]) (AV.osl (0 : Nat) (1 : Nat) (0 : Nat) (4 : Nat)) ([some { es := (1 : Nat), n := (4 : Nat), mu := true, f := Rep.lst [[AV.str (bs wPay)], [AV.str (bs wWho)], [AV.str (bs wWhom)], [AV.str (bs wAmount)]] }]) (.br ((↑(List.length ws) : Int) != (↑(4) : Int)) (.out (AV.tup [AV.agg [Zi 0, Zi 0, Zi 0, Zi 0, AV.bool false], AV.bool false]) [] (AV.tup [AV.agg (Cmd.cells (Option.getD (matchF { kind := (2 : Int), ws := [wPay, wWho, wWhom, wAmount], whom := (0 : Int) } ws) Cmd.zero)), AV.bool (Option.isSome (matchF { kind := (2 : Int), ws := [wPay, wWho, wWhom, wAmount], whom := (0 : Int) } ws))]) []) (.tt (.req ((0 : Int) ≤ (0 : Int) ∧ (0 : Int) < (↑(4) : Int)) (.gc 131 ([{ es := 5, n := 1, mu := true, f := Rep.lst [[Zi 2, Zi 0, Zi 0, Zi 0, AV.bool true]] }]) ([AV.own (0) (5) (0) (0) (5), AV.str (bs wPay)]) (AV.raw (Value.pointer none)) ([some { es := (5 : Nat), n := (1 : Nat), mu := true, f := Rep.lst [[Zi 2, Zi 0, Zi 0, Zi 0, AV.bool true]] }]) (.tt (.req ((0 : Int) ≤ (0 : Int) ∧ (0 : Int) < (↑(List.length ws) : Int)) (.br (!ByteArray.toList (bs (List.getD ws (Int.toNat (0 : Int)) [])) == ByteArray.toList (bs wPay)) (.out (AV.tup [AV.agg [Zi 0, Zi 0, Zi 0, Zi 0, AV.bool false], AV.bool false]) [] (AV.tup [AV.agg (Cmd.cells (Option.getD (matchF { kind := (2 : Int), ws := [wPay, wWho, wWhom, wAmount], whom := (0 : Int) } ws) Cmd.zero)), AV.bool (Option.isSome (matchF { kind := (2 : Int), ws := [wPay, wWho, wWhom, wAmount], whom := (0 : Int) } ws))]) []) (.tt (.req ((0 : Int) ≤ IntKind.wrap IntKind.i64 ((0 : Int) + (1 : Int)) ∧ IntKind.wrap IntKind.i64 ((0 : Int) + (1 : Int)) < (↑(4) : Int)) (.gc 131 ([{ es := 5, n := 1, mu := true, f := Rep.lst [[Zi 2, Zi 0, Zi 0, Zi 0, AV.bool true]] }]) ([AV.own (0) (5) (0) (0) (5), AV.str (bs wWho)]) (AV.own (0 : Nat) (5 : Nat) (0 : Nat) (1 : Nat) (1 : Nat)) ([some { es := (5 : Nat), n := (1 : Nat), mu := true, f := Rep.lst [[Zi 2, Zi 0, Zi 0, Zi 0, AV.bool true]] }]) (.ff (.req ((0 : Int) ≤ IntKind.wrap IntKind.i64 ((0 : Int) + (1 : Int)) ∧ IntKind.wrap IntKind.i64 ((0 : Int) + (1 : Int)) < (↑(List.length ws) : Int)) (.sc (true) 132 ([AV.str (bs (List.getD ws (1) []))]) (AV.tup [Zi (numVal (List.getD ws (1 : Nat) [])), AV.bool (Option.isSome (numC (List.getD ws (1 : Nat) [])))]) (.br (!Option.isSome (numC (List.getD ws (1) []))) (.out (AV.tup [AV.agg [Zi 0, Zi 0, Zi 0, Zi 0, AV.bool false], AV.bool false]) [] (AV.tup [AV.agg (Cmd.cells (Option.getD (matchF { kind := (2 : Int), ws := [wPay, wWho, wWhom, wAmount], whom := (0 : Int) } ws) Cmd.zero)), AV.bool (Option.isSome (matchF { kind := (2 : Int), ws := [wPay, wWho, wWhom, wAmount], whom := (0 : Int) } ws))]) []) (.tt (.req ((0 : Int) ≤ IntKind.wrap IntKind.i64 (IntKind.wrap IntKind.i64 ((0 : Int) + (1 : Int)) + (1 : Int)) ∧ IntKind.wrap IntKind.i64 (IntKind.wrap IntKind.i64 ((0 : Int) + (1 : Int)) + (1 : Int)) < (↑(4) : Int)) (.gc 131 ([{ es := 5, n := 1, mu := true, f := Rep.lst [[Zi 2, Zi (numVal (List.getD ws (1 : Nat) [])), Zi 0, Zi 0, AV.bool true]] }]) ([AV.own (0) (5) (0) (0) (5), AV.str (bs wWhom)]) (AV.own (0 : Nat) (5 : Nat) (0 : Nat) (2 : Nat) (1 : Nat)) ([some { es := (5 : Nat), n := (1 : Nat), mu := true, f := Rep.lst [[Zi 2, Zi (numVal (List.getD ws (1 : Nat) [])), Zi 0, Zi 0, AV.bool true]] }]) (.ff (.req ((0 : Int) ≤ IntKind.wrap IntKind.i64 (IntKind.wrap IntKind.i64 ((0 : Int) + (1 : Int)) + (1 : Int)) ∧ IntKind.wrap IntKind.i64 (IntKind.wrap IntKind.i64 ((0 : Int) + (1 : Int)) + (1 : Int)) < (↑(List.length ws) : Int)) (.sc (true) 132 ([AV.str (bs (List.getD ws (2) []))]) (AV.tup [Zi (numVal (List.getD ws (2 : Nat) [])), AV.bool (Option.isSome (numC (List.getD ws (2 : Nat) [])))]) (.br (!Option.isSome (numC (List.getD ws (2) []))) (.out (AV.tup [AV.agg [Zi 0, Zi 0, Zi 0, Zi 0, AV.bool false], AV.bool false]) [] (AV.tup [AV.agg (Cmd.cells (Option.getD (matchF { kind := (2 : Int), ws := [wPay, wWho, wWhom, wAmount], whom := (0 : Int) } ws) Cmd.zero)), AV.bool (Option.isSome (matchF { kind := (2 : Int), ws := [wPay, wWho, wWhom, wAmount], whom := (0 : Int) } ws))]) []) (.tt (.req ((0 : Int) ≤ IntKind.wrap IntKind.i64 (IntKind.wrap IntKind.i64 (IntKind.wrap IntKind.i64 ((0 : Int) + (1 : Int)) + (1 : Int)) + (1 : Int)) ∧ IntKind.wrap IntKind.i64 (IntKind.wrap IntKind.i64 (IntKind.wrap IntKind.i64 ((0 : Int) + (1 : Int)) + (1 : Int)) + (1 : Int)) < (↑(4) : Int)) (.gc 131 ([{ es := 5, n := 1, mu := true, f := Rep.lst [[Zi 2, Zi (numVal (List.getD ws (1 : Nat) [])), Zi (numVal (List.getD ws (2 : Nat) [])), Zi 0, AV.bool true]] }]) ([AV.own (0) (5) (0) (0) (5), AV.str (bs wAmount)]) (AV.own (0 : Nat) (5 : Nat) (0 : Nat) (3 : Nat) (1 : Nat)) ([some { es := (5 : Nat), n := (1 : Nat), mu := true, f := Rep.lst [[Zi 2, Zi (numVal (List.getD ws (1 : Nat) [])), Zi (numVal (List.getD ws (2 : Nat) [])), Zi 0, AV.bool true]] }]) (.ff (.req ((0 : Int) ≤ IntKind.wrap IntKind.i64 (IntKind.wrap IntKind.i64 (IntKind.wrap IntKind.i64 ((0 : Int) + (1 : Int)) + (1 : Int)) + (1 : Int)) ∧ IntKind.wrap IntKind.i64 (IntKind.wrap IntKind.i64 (IntKind.wrap IntKind.i64 ((0 : Int) + (1 : Int)) + (1 : Int)) + (1 : Int)) < (↑(List.length ws) : Int)) (.sc (true) 132 ([AV.str (bs (List.getD ws (3) []))]) (AV.tup [Zi (numVal (List.getD ws (3 : Nat) [])), AV.bool (Option.isSome (numC (List.getD ws (3 : Nat) [])))]) (.br (!Option.isSome (numC (List.getD ws (3) []))) (.out (AV.tup [AV.agg [Zi 0, Zi 0, Zi 0, Zi 0, AV.bool false], AV.bool false]) [] (AV.tup [AV.agg (Cmd.cells (Option.getD (matchF { kind := (2 : Int), ws := [wPay, wWho, wWhom, wAmount], whom := (0 : Int) } ws) Cmd.zero)), AV.bool (Option.isSome (matchF { kind := (2 : Int), ws := [wPay, wWho, wWhom, wAmount], whom := (0 : Int) } ws))]) []) (.ff (.out (AV.tup [AV.agg [Zi 2, Zi (numVal (List.getD ws (1) [])), Zi (numVal (List.getD ws (2) [])), Zi (numVal (List.getD ws (3) [])), AV.bool true], AV.bool true]) [] (AV.tup [AV.agg (Cmd.cells (Option.getD (matchF { kind := (2 : Int), ws := [wPay, wWho, wWhom, wAmount], whom := (0 : Int) } ws) Cmd.zero)), AV.bool (Option.isSome (matchF { kind := (2 : Int), ws := [wPay, wWho, wWhom, wAmount], whom := (0 : Int) } ws))]) [])))))))))))))))))))))))))))))))
    (by kernel_rfl) ?_
  refine k_gc (c0) ?_
  refine k_br (fun h1 => ?_) (fun h1 => ?_)
  · have g1 := cnd_bne_t h1
    exact k_out (Ent.of_eq (by first | exact mO (nLen 4 rfl (by assumption)) | exact mO (nWord 0 wPay rfl (by decide) (by assumption)) | exact mO (nNum 1 wWho rfl (by decide) (by assumption)) | exact mO (nNum 2 wWhom rfl (by decide) (by assumption)) | exact mO (nNum 3 wAmount rfl (by decide) (by assumption)) | (have h := s2 (k := 2) (b := true) (W := wPay) (by decide) (by assumption) (by assumption) (by assumption) (by assumption) (by assumption); rw [show matchF ⟨2, [wPay, wWho, wWhom, wAmount], 0⟩ ws = _ from h]; rfl)))
  · have g1 := cnd_bne_f h1
    refine k_tt ?_
    refine k_req ((by first | omega | decide | (rw [g1]; decide))) ?_
    refine k_gc (f0 ((2 : Int)) ((0 : Int)) ((0 : Int)) ((0 : Int)) (true)) ?_
    refine k_tt ?_
    refine k_req ((by first | omega | decide | (rw [g1]; decide))) ?_
    refine k_br (fun h8 => ?_) (fun h8 => ?_)
    · have g8 := (cnd_not_t cnd_id_f) h8
      exact k_out (Ent.of_eq (by first | exact mO (nLen 4 rfl (by assumption)) | exact mO (nWord 0 wPay rfl (by decide) (by assumption)) | exact mO (nNum 1 wWho rfl (by decide) (by assumption)) | exact mO (nNum 2 wWhom rfl (by decide) (by assumption)) | exact mO (nNum 3 wAmount rfl (by decide) (by assumption)) | (have h := s2 (k := 2) (b := true) (W := wPay) (by decide) (by assumption) (by assumption) (by assumption) (by assumption) (by assumption); rw [show matchF ⟨2, [wPay, wWho, wWhom, wAmount], 0⟩ ws = _ from h]; rfl)))
    · have g8 := (cnd_not_f cnd_id_t) h8
      refine k_tt ?_
      refine k_req ((by first | omega | decide | (rw [g1]; decide))) ?_
      refine k_gc ((field_1 m) ((2 : Int)) ((0 : Int)) ((0 : Int)) ((0 : Int)) (true)) ?_
      refine k_ff ?_
      refine k_req ((by first | omega | decide | (rw [g1]; decide))) ?_
      refine k_sc (n1) ?_
      refine k_br (fun h16 => ?_) (fun h16 => ?_)
      · have g16 := (cnd_not_t cnd_id_f) h16
        exact k_out (Ent.of_eq (by first | exact mO (nLen 4 rfl (by assumption)) | exact mO (nWord 0 wPay rfl (by decide) (by assumption)) | exact mO (nNum 1 wWho rfl (by decide) (by assumption)) | exact mO (nNum 2 wWhom rfl (by decide) (by assumption)) | exact mO (nNum 3 wAmount rfl (by decide) (by assumption)) | (have h := s2 (k := 2) (b := true) (W := wPay) (by decide) (by assumption) (by assumption) (by assumption) (by assumption) (by assumption); rw [show matchF ⟨2, [wPay, wWho, wWhom, wAmount], 0⟩ ws = _ from h]; rfl)))
      · have g16 := (cnd_not_f cnd_id_t) h16
        refine k_tt ?_
        refine k_req ((by first | omega | decide | (rw [g1]; decide))) ?_
        refine k_gc ((field_2 m) ((2 : Int)) (numVal (List.getD ws (1 : Nat) [])) ((0 : Int)) ((0 : Int)) (true)) ?_
        refine k_ff ?_
        refine k_req ((by first | omega | decide | (rw [g1]; decide))) ?_
        refine k_sc (n2) ?_
        refine k_br (fun h24 => ?_) (fun h24 => ?_)
        · have g24 := (cnd_not_t cnd_id_f) h24
          exact k_out (Ent.of_eq (by first | exact mO (nLen 4 rfl (by assumption)) | exact mO (nWord 0 wPay rfl (by decide) (by assumption)) | exact mO (nNum 1 wWho rfl (by decide) (by assumption)) | exact mO (nNum 2 wWhom rfl (by decide) (by assumption)) | exact mO (nNum 3 wAmount rfl (by decide) (by assumption)) | (have h := s2 (k := 2) (b := true) (W := wPay) (by decide) (by assumption) (by assumption) (by assumption) (by assumption) (by assumption); rw [show matchF ⟨2, [wPay, wWho, wWhom, wAmount], 0⟩ ws = _ from h]; rfl)))
        · have g24 := (cnd_not_f cnd_id_t) h24
          refine k_tt ?_
          refine k_req ((by first | omega | decide | (rw [g1]; decide))) ?_
          refine k_gc ((field_3 m) ((2 : Int)) (numVal (List.getD ws (1 : Nat) [])) (numVal (List.getD ws (2 : Nat) [])) ((0 : Int)) (true)) ?_
          refine k_ff ?_
          refine k_req ((by first | omega | decide | (rw [g1]; decide))) ?_
          refine k_sc (n3) ?_
          refine k_br (fun h32 => ?_) (fun h32 => ?_)
          · have g32 := (cnd_not_t cnd_id_f) h32
            exact k_out (Ent.of_eq (by first | exact mO (nLen 4 rfl (by assumption)) | exact mO (nWord 0 wPay rfl (by decide) (by assumption)) | exact mO (nNum 1 wWho rfl (by decide) (by assumption)) | exact mO (nNum 2 wWhom rfl (by decide) (by assumption)) | exact mO (nNum 3 wAmount rfl (by decide) (by assumption)) | (have h := s2 (k := 2) (b := true) (W := wPay) (by decide) (by assumption) (by assumption) (by assumption) (by assumption) (by assumption); rw [show matchF ⟨2, [wPay, wWho, wWhom, wAmount], 0⟩ ws = _ from h]; rfl)))
          · have g32 := (cnd_not_f cnd_id_t) h32
            refine k_ff ?_
            exact k_out (Ent.of_eq (by first | exact mO (nLen 4 rfl (by assumption)) | exact mO (nWord 0 wPay rfl (by decide) (by assumption)) | exact mO (nNum 1 wWho rfl (by decide) (by assumption)) | exact mO (nNum 2 wWhom rfl (by decide) (by assumption)) | exact mO (nNum 3 wAmount rfl (by decide) (by assumption)) | (have h := s2 (k := 2) (b := true) (W := wPay) (by decide) (by assumption) (by assumption) (by assumption) (by assumption) (by assumption); rw [show matchF ⟨2, [wPay, wWho, wWhom, wAmount], 0⟩ ws = _ from h]; rfl)))

theorem match_2 (m : GP) (ws : List Str) (hw : ∀ w ∈ ws, w.length ≤ 281474976710656) (hn : ws.length < 9223372036854775808) : Pure Tryz.prog (gl0 m) 85 [.agg [.int .i64 3, .str (bs wf2), .int .i64 0], wlA ws] (.tup [.agg (Cmd.cells ((matchF ⟨3, [wTransfer, wWho, wWhom, wAmount], 0⟩ ws).getD .zero)), .bool (matchF ⟨3, [wTransfer, wWho, wWhom, wAmount], 0⟩ ws).isSome]) := by
  have c0 := fields_2 m
  have f0 := fun c0 c1 c2 c3 c4 => field_0 m c0 c1 c2 c3 c4 wTransfer (fd _ (by decide)).1 (fd _ (by decide)).2.1 (fd _ (by decide)).2.2
  have n1 := number_c m (ws.getD 1 []) (getD_len hw)
  have n2 := number_c m (ws.getD 2 []) (getD_len hw)
  have n3 := number_c m (ws.getD 3 []) (getD_len hw)
  refine pure_sk (own := (owM 5)) Tryz.func85 (by kernel_rfl) mixed (by kernel_rfl)
    (.gc 86 ([]) ([AV.str (bs wf2)]) (AV.osl (0 : Nat) (1 : Nat) (0 : Nat) (4 : Nat)) ([some { es := (1 : Nat), n := (4 : Nat), mu := true, f := Rep.lst [[AV.str (bs wTransfer)], [AV.str (bs wWho)], [AV.str (bs wWhom)], [AV.str (bs wAmount)]] }]) (.br ((↑(List.length ws) : Int) != (↑(4) : Int)) (.out (AV.tup [AV.agg [Zi 0, Zi 0, Zi 0, Zi 0, AV.bool false], AV.bool false]) [] (AV.tup [AV.agg (Cmd.cells (Option.getD (matchF { kind := (3 : Int), ws := [wTransfer, wWho, wWhom, wAmount], whom := (0 : Int) } ws) Cmd.zero)), AV.bool (Option.isSome (matchF { kind := (3 : Int), ws := [wTransfer, wWho, wWhom, wAmount], whom := (0 : Int) } ws))]) []) (.tt (.req ((0 : Int) ≤ (0 : Int) ∧ (0 : Int) < (↑(4) : Int)) (.gc 131 ([{ es := 5, n := 1, mu := true, f := Rep.lst [[Zi 3, Zi 0, Zi 0, Zi 0, AV.bool true]] }]) ([AV.own (0) (5) (0) (0) (5), AV.str (bs wTransfer)]) (AV.raw (Value.pointer none)) ([some { es := (5 : Nat), n := (1 : Nat), mu := true, f := Rep.lst [[Zi 3, Zi 0, Zi 0, Zi 0, AV.bool true]] }]) (.tt (.req ((0 : Int) ≤ (0 : Int) ∧ (0 : Int) < (↑(List.length ws) : Int)) (.br (!ByteArray.toList (bs (List.getD ws (Int.toNat (0 : Int)) [])) == ByteArray.toList (bs wTransfer)) (.out (AV.tup [AV.agg [Zi 0, Zi 0, Zi 0, Zi 0, AV.bool false], AV.bool false]) [] (AV.tup [AV.agg (Cmd.cells (Option.getD (matchF { kind := (3 : Int), ws := [wTransfer, wWho, wWhom, wAmount], whom := (0 : Int) } ws) Cmd.zero)), AV.bool (Option.isSome (matchF { kind := (3 : Int), ws := [wTransfer, wWho, wWhom, wAmount], whom := (0 : Int) } ws))]) []) (.tt (.req ((0 : Int) ≤ IntKind.wrap IntKind.i64 ((0 : Int) + (1 : Int)) ∧ IntKind.wrap IntKind.i64 ((0 : Int) + (1 : Int)) < (↑(4) : Int)) (.gc 131 ([{ es := 5, n := 1, mu := true, f := Rep.lst [[Zi 3, Zi 0, Zi 0, Zi 0, AV.bool true]] }]) ([AV.own (0) (5) (0) (0) (5), AV.str (bs wWho)]) (AV.own (0 : Nat) (5 : Nat) (0 : Nat) (1 : Nat) (1 : Nat)) ([some { es := (5 : Nat), n := (1 : Nat), mu := true, f := Rep.lst [[Zi 3, Zi 0, Zi 0, Zi 0, AV.bool true]] }]) (.ff (.req ((0 : Int) ≤ IntKind.wrap IntKind.i64 ((0 : Int) + (1 : Int)) ∧ IntKind.wrap IntKind.i64 ((0 : Int) + (1 : Int)) < (↑(List.length ws) : Int)) (.sc (true) 132 ([AV.str (bs (List.getD ws (1) []))]) (AV.tup [Zi (numVal (List.getD ws (1 : Nat) [])), AV.bool (Option.isSome (numC (List.getD ws (1 : Nat) [])))]) (.br (!Option.isSome (numC (List.getD ws (1) []))) (.out (AV.tup [AV.agg [Zi 0, Zi 0, Zi 0, Zi 0, AV.bool false], AV.bool false]) [] (AV.tup [AV.agg (Cmd.cells (Option.getD (matchF { kind := (3 : Int), ws := [wTransfer, wWho, wWhom, wAmount], whom := (0 : Int) } ws) Cmd.zero)), AV.bool (Option.isSome (matchF { kind := (3 : Int), ws := [wTransfer, wWho, wWhom, wAmount], whom := (0 : Int) } ws))]) []) (.tt (.req ((0 : Int) ≤ IntKind.wrap IntKind.i64 (IntKind.wrap IntKind.i64 ((0 : Int) + (1 : Int)) + (1 : Int)) ∧ IntKind.wrap IntKind.i64 (IntKind.wrap IntKind.i64 ((0 : Int) + (1 : Int)) + (1 : Int)) < (↑(4) : Int)) (.gc 131 ([{ es := 5, n := 1, mu := true, f := Rep.lst [[Zi 3, Zi (numVal (List.getD ws (1 : Nat) [])), Zi 0, Zi 0, AV.bool true]] }]) ([AV.own (0) (5) (0) (0) (5), AV.str (bs wWhom)]) (AV.own (0 : Nat) (5 : Nat) (0 : Nat) (2 : Nat) (1 : Nat)) ([some { es := (5 : Nat), n := (1 : Nat), mu := true, f := Rep.lst [[Zi 3, Zi (numVal (List.getD ws (1 : Nat) [])), Zi 0, Zi 0, AV.bool true]] }]) (.ff (.req ((0 : Int) ≤ IntKind.wrap IntKind.i64 (IntKind.wrap IntKind.i64 ((0 : Int) + (1 : Int)) + (1 : Int)) ∧ IntKind.wrap IntKind.i64 (IntKind.wrap IntKind.i64 ((0 : Int) + (1 : Int)) + (1 : Int)) < (↑(List.length ws) : Int)) (.sc (true) 132 ([AV.str (bs (List.getD ws (2) []))]) (AV.tup [Zi (numVal (List.getD ws (2 : Nat) [])), AV.bool (Option.isSome (numC (List.getD ws (2 : Nat) [])))]) (.br (!Option.isSome (numC (List.getD ws (2) []))) (.out (AV.tup [AV.agg [Zi 0, Zi 0, Zi 0, Zi 0, AV.bool false], AV.bool false]) [] (AV.tup [AV.agg (Cmd.cells (Option.getD (matchF { kind := (3 : Int), ws := [wTransfer, wWho, wWhom, wAmount], whom := (0 : Int) } ws) Cmd.zero)), AV.bool (Option.isSome (matchF { kind := (3 : Int), ws := [wTransfer, wWho, wWhom, wAmount], whom := (0 : Int) } ws))]) []) (.tt (.req ((0 : Int) ≤ IntKind.wrap IntKind.i64 (IntKind.wrap IntKind.i64 (IntKind.wrap IntKind.i64 ((0 : Int) + (1 : Int)) + (1 : Int)) + (1 : Int)) ∧ IntKind.wrap IntKind.i64 (IntKind.wrap IntKind.i64 (IntKind.wrap IntKind.i64 ((0 : Int) + (1 : Int)) + (1 : Int)) + (1 : Int)) < (↑(4) : Int)) (.gc 131 ([{ es := 5, n := 1, mu := true, f := Rep.lst [[Zi 3, Zi (numVal (List.getD ws (1 : Nat) [])), Zi (numVal (List.getD ws (2 : Nat) [])), Zi 0, AV.bool true]] }]) ([AV.own (0) (5) (0) (0) (5), AV.str (bs wAmount)]) (AV.own (0 : Nat) (5 : Nat) (0 : Nat) (3 : Nat) (1 : Nat)) ([some { es := (5 : Nat), n := (1 : Nat), mu := true, f := Rep.lst [[Zi 3, Zi (numVal (List.getD ws (1 : Nat) [])), Zi (numVal (List.getD ws (2 : Nat) [])), Zi 0, AV.bool true]] }]) (.ff (.req ((0 : Int) ≤ IntKind.wrap IntKind.i64 (IntKind.wrap IntKind.i64 (IntKind.wrap IntKind.i64 ((0 : Int) + (1 : Int)) + (1 : Int)) + (1 : Int)) ∧ IntKind.wrap IntKind.i64 (IntKind.wrap IntKind.i64 (IntKind.wrap IntKind.i64 ((0 : Int) + (1 : Int)) + (1 : Int)) + (1 : Int)) < (↑(List.length ws) : Int)) (.sc (true) 132 ([AV.str (bs (List.getD ws (3) []))]) (AV.tup [Zi (numVal (List.getD ws (3 : Nat) [])), AV.bool (Option.isSome (numC (List.getD ws (3 : Nat) [])))]) (.br (!Option.isSome (numC (List.getD ws (3) []))) (.out (AV.tup [AV.agg [Zi 0, Zi 0, Zi 0, Zi 0, AV.bool false], AV.bool false]) [] (AV.tup [AV.agg (Cmd.cells (Option.getD (matchF { kind := (3 : Int), ws := [wTransfer, wWho, wWhom, wAmount], whom := (0 : Int) } ws) Cmd.zero)), AV.bool (Option.isSome (matchF { kind := (3 : Int), ws := [wTransfer, wWho, wWhom, wAmount], whom := (0 : Int) } ws))]) []) (.ff (.out (AV.tup [AV.agg [Zi 3, Zi (numVal (List.getD ws (1) [])), Zi (numVal (List.getD ws (2) [])), Zi (numVal (List.getD ws (3) [])), AV.bool true], AV.bool true]) [] (AV.tup [AV.agg (Cmd.cells (Option.getD (matchF { kind := (3 : Int), ws := [wTransfer, wWho, wWhom, wAmount], whom := (0 : Int) } ws) Cmd.zero)), AV.bool (Option.isSome (matchF { kind := (3 : Int), ws := [wTransfer, wWho, wWhom, wAmount], whom := (0 : Int) } ws))]) [])))))))))))))))))))))))))))))))
    (by kernel_rfl) ?_
  refine k_gc (c0) ?_
  refine k_br (fun h1 => ?_) (fun h1 => ?_)
  · have g1 := cnd_bne_t h1
    exact k_out (Ent.of_eq (by first | exact mO (nLen 4 rfl (by assumption)) | exact mO (nWord 0 wTransfer rfl (by decide) (by assumption)) | exact mO (nNum 1 wWho rfl (by decide) (by assumption)) | exact mO (nNum 2 wWhom rfl (by decide) (by assumption)) | exact mO (nNum 3 wAmount rfl (by decide) (by assumption)) | (have h := s2 (k := 3) (b := true) (W := wTransfer) (by decide) (by assumption) (by assumption) (by assumption) (by assumption) (by assumption); rw [show matchF ⟨3, [wTransfer, wWho, wWhom, wAmount], 0⟩ ws = _ from h]; rfl)))
  · have g1 := cnd_bne_f h1
    refine k_tt ?_
    refine k_req ((by first | omega | decide | (rw [g1]; decide))) ?_
    refine k_gc (f0 ((3 : Int)) ((0 : Int)) ((0 : Int)) ((0 : Int)) (true)) ?_
    refine k_tt ?_
    refine k_req ((by first | omega | decide | (rw [g1]; decide))) ?_
    refine k_br (fun h8 => ?_) (fun h8 => ?_)
    · have g8 := (cnd_not_t cnd_id_f) h8
      exact k_out (Ent.of_eq (by first | exact mO (nLen 4 rfl (by assumption)) | exact mO (nWord 0 wTransfer rfl (by decide) (by assumption)) | exact mO (nNum 1 wWho rfl (by decide) (by assumption)) | exact mO (nNum 2 wWhom rfl (by decide) (by assumption)) | exact mO (nNum 3 wAmount rfl (by decide) (by assumption)) | (have h := s2 (k := 3) (b := true) (W := wTransfer) (by decide) (by assumption) (by assumption) (by assumption) (by assumption) (by assumption); rw [show matchF ⟨3, [wTransfer, wWho, wWhom, wAmount], 0⟩ ws = _ from h]; rfl)))
    · have g8 := (cnd_not_f cnd_id_t) h8
      refine k_tt ?_
      refine k_req ((by first | omega | decide | (rw [g1]; decide))) ?_
      refine k_gc ((field_1 m) ((3 : Int)) ((0 : Int)) ((0 : Int)) ((0 : Int)) (true)) ?_
      refine k_ff ?_
      refine k_req ((by first | omega | decide | (rw [g1]; decide))) ?_
      refine k_sc (n1) ?_
      refine k_br (fun h16 => ?_) (fun h16 => ?_)
      · have g16 := (cnd_not_t cnd_id_f) h16
        exact k_out (Ent.of_eq (by first | exact mO (nLen 4 rfl (by assumption)) | exact mO (nWord 0 wTransfer rfl (by decide) (by assumption)) | exact mO (nNum 1 wWho rfl (by decide) (by assumption)) | exact mO (nNum 2 wWhom rfl (by decide) (by assumption)) | exact mO (nNum 3 wAmount rfl (by decide) (by assumption)) | (have h := s2 (k := 3) (b := true) (W := wTransfer) (by decide) (by assumption) (by assumption) (by assumption) (by assumption) (by assumption); rw [show matchF ⟨3, [wTransfer, wWho, wWhom, wAmount], 0⟩ ws = _ from h]; rfl)))
      · have g16 := (cnd_not_f cnd_id_t) h16
        refine k_tt ?_
        refine k_req ((by first | omega | decide | (rw [g1]; decide))) ?_
        refine k_gc ((field_2 m) ((3 : Int)) (numVal (List.getD ws (1 : Nat) [])) ((0 : Int)) ((0 : Int)) (true)) ?_
        refine k_ff ?_
        refine k_req ((by first | omega | decide | (rw [g1]; decide))) ?_
        refine k_sc (n2) ?_
        refine k_br (fun h24 => ?_) (fun h24 => ?_)
        · have g24 := (cnd_not_t cnd_id_f) h24
          exact k_out (Ent.of_eq (by first | exact mO (nLen 4 rfl (by assumption)) | exact mO (nWord 0 wTransfer rfl (by decide) (by assumption)) | exact mO (nNum 1 wWho rfl (by decide) (by assumption)) | exact mO (nNum 2 wWhom rfl (by decide) (by assumption)) | exact mO (nNum 3 wAmount rfl (by decide) (by assumption)) | (have h := s2 (k := 3) (b := true) (W := wTransfer) (by decide) (by assumption) (by assumption) (by assumption) (by assumption) (by assumption); rw [show matchF ⟨3, [wTransfer, wWho, wWhom, wAmount], 0⟩ ws = _ from h]; rfl)))
        · have g24 := (cnd_not_f cnd_id_t) h24
          refine k_tt ?_
          refine k_req ((by first | omega | decide | (rw [g1]; decide))) ?_
          refine k_gc ((field_3 m) ((3 : Int)) (numVal (List.getD ws (1 : Nat) [])) (numVal (List.getD ws (2 : Nat) [])) ((0 : Int)) (true)) ?_
          refine k_ff ?_
          refine k_req ((by first | omega | decide | (rw [g1]; decide))) ?_
          refine k_sc (n3) ?_
          refine k_br (fun h32 => ?_) (fun h32 => ?_)
          · have g32 := (cnd_not_t cnd_id_f) h32
            exact k_out (Ent.of_eq (by first | exact mO (nLen 4 rfl (by assumption)) | exact mO (nWord 0 wTransfer rfl (by decide) (by assumption)) | exact mO (nNum 1 wWho rfl (by decide) (by assumption)) | exact mO (nNum 2 wWhom rfl (by decide) (by assumption)) | exact mO (nNum 3 wAmount rfl (by decide) (by assumption)) | (have h := s2 (k := 3) (b := true) (W := wTransfer) (by decide) (by assumption) (by assumption) (by assumption) (by assumption) (by assumption); rw [show matchF ⟨3, [wTransfer, wWho, wWhom, wAmount], 0⟩ ws = _ from h]; rfl)))
          · have g32 := (cnd_not_f cnd_id_t) h32
            refine k_ff ?_
            exact k_out (Ent.of_eq (by first | exact mO (nLen 4 rfl (by assumption)) | exact mO (nWord 0 wTransfer rfl (by decide) (by assumption)) | exact mO (nNum 1 wWho rfl (by decide) (by assumption)) | exact mO (nNum 2 wWhom rfl (by decide) (by assumption)) | exact mO (nNum 3 wAmount rfl (by decide) (by assumption)) | (have h := s2 (k := 3) (b := true) (W := wTransfer) (by decide) (by assumption) (by assumption) (by assumption) (by assumption) (by assumption); rw [show matchF ⟨3, [wTransfer, wWho, wWhom, wAmount], 0⟩ ws = _ from h]; rfl)))

theorem match_3 (m : GP) (ws : List Str) (hw : ∀ w ∈ ws, w.length ≤ 281474976710656) (hn : ws.length < 9223372036854775808) : Pure Tryz.prog (gl0 m) 85 [.agg [.int .i64 4, .str (bs wf3), .int .i64 0], wlA ws] (.tup [.agg (Cmd.cells ((matchF ⟨4, [wDeposit, wMerchant, wWho], 0⟩ ws).getD .zero)), .bool (matchF ⟨4, [wDeposit, wMerchant, wWho], 0⟩ ws).isSome]) := by
  have c0 := fields_3 m
  have f0 := fun c0 c1 c2 c3 c4 => field_0 m c0 c1 c2 c3 c4 wDeposit (fd _ (by decide)).1 (fd _ (by decide)).2.1 (fd _ (by decide)).2.2
  have f1 := fun c0 c1 c2 c3 c4 => field_0 m c0 c1 c2 c3 c4 wMerchant (fd _ (by decide)).1 (fd _ (by decide)).2.1 (fd _ (by decide)).2.2
  have n2 := number_c m (ws.getD 2 []) (getD_len hw)
  refine pure_sk (own := (owM 5)) Tryz.func85 (by kernel_rfl) mixed (by kernel_rfl)
    (.gc 86 ([]) ([AV.str (bs wf3)]) (AV.osl (0 : Nat) (1 : Nat) (0 : Nat) (3 : Nat)) ([some { es := (1 : Nat), n := (3 : Nat), mu := true, f := Rep.lst [[AV.str (bs wDeposit)], [AV.str (bs wMerchant)], [AV.str (bs wWho)]] }]) (.br ((↑(List.length ws) : Int) != (↑(3) : Int)) (.out (AV.tup [AV.agg [Zi 0, Zi 0, Zi 0, Zi 0, AV.bool false], AV.bool false]) [] (AV.tup [AV.agg (Cmd.cells (Option.getD (matchF { kind := (4 : Int), ws := [wDeposit, wMerchant, wWho], whom := (0 : Int) } ws) Cmd.zero)), AV.bool (Option.isSome (matchF { kind := (4 : Int), ws := [wDeposit, wMerchant, wWho], whom := (0 : Int) } ws))]) []) (.tt (.req ((0 : Int) ≤ (0 : Int) ∧ (0 : Int) < (↑(3) : Int)) (.gc 131 ([{ es := 5, n := 1, mu := true, f := Rep.lst [[Zi 4, Zi 0, Zi 0, Zi 0, AV.bool true]] }]) ([AV.own (0) (5) (0) (0) (5), AV.str (bs wDeposit)]) (AV.raw (Value.pointer none)) ([some { es := (5 : Nat), n := (1 : Nat), mu := true, f := Rep.lst [[Zi 4, Zi 0, Zi 0, Zi 0, AV.bool true]] }]) (.tt (.req ((0 : Int) ≤ (0 : Int) ∧ (0 : Int) < (↑(List.length ws) : Int)) (.br (!ByteArray.toList (bs (List.getD ws (Int.toNat (0 : Int)) [])) == ByteArray.toList (bs wDeposit)) (.out (AV.tup [AV.agg [Zi 0, Zi 0, Zi 0, Zi 0, AV.bool false], AV.bool false]) [] (AV.tup [AV.agg (Cmd.cells (Option.getD (matchF { kind := (4 : Int), ws := [wDeposit, wMerchant, wWho], whom := (0 : Int) } ws) Cmd.zero)), AV.bool (Option.isSome (matchF { kind := (4 : Int), ws := [wDeposit, wMerchant, wWho], whom := (0 : Int) } ws))]) []) (.tt (.req ((0 : Int) ≤ IntKind.wrap IntKind.i64 ((0 : Int) + (1 : Int)) ∧ IntKind.wrap IntKind.i64 ((0 : Int) + (1 : Int)) < (↑(3) : Int)) (.gc 131 ([{ es := 5, n := 1, mu := true, f := Rep.lst [[Zi 4, Zi 0, Zi 0, Zi 0, AV.bool true]] }]) ([AV.own (0) (5) (0) (0) (5), AV.str (bs wMerchant)]) (AV.raw (Value.pointer none)) ([some { es := (5 : Nat), n := (1 : Nat), mu := true, f := Rep.lst [[Zi 4, Zi 0, Zi 0, Zi 0, AV.bool true]] }]) (.tt (.req ((0 : Int) ≤ IntKind.wrap IntKind.i64 ((0 : Int) + (1 : Int)) ∧ IntKind.wrap IntKind.i64 ((0 : Int) + (1 : Int)) < (↑(List.length ws) : Int)) (.br (!ByteArray.toList (bs (List.getD ws (Int.toNat (IntKind.wrap IntKind.i64 ((0 : Int) + (1 : Int)))) [])) == ByteArray.toList (bs wMerchant)) (.out (AV.tup [AV.agg [Zi 0, Zi 0, Zi 0, Zi 0, AV.bool false], AV.bool false]) [] (AV.tup [AV.agg (Cmd.cells (Option.getD (matchF { kind := (4 : Int), ws := [wDeposit, wMerchant, wWho], whom := (0 : Int) } ws) Cmd.zero)), AV.bool (Option.isSome (matchF { kind := (4 : Int), ws := [wDeposit, wMerchant, wWho], whom := (0 : Int) } ws))]) []) (.tt (.req ((0 : Int) ≤ IntKind.wrap IntKind.i64 (IntKind.wrap IntKind.i64 ((0 : Int) + (1 : Int)) + (1 : Int)) ∧ IntKind.wrap IntKind.i64 (IntKind.wrap IntKind.i64 ((0 : Int) + (1 : Int)) + (1 : Int)) < (↑(3) : Int)) (.gc 131 ([{ es := 5, n := 1, mu := true, f := Rep.lst [[Zi 4, Zi 0, Zi 0, Zi 0, AV.bool true]] }]) ([AV.own (0) (5) (0) (0) (5), AV.str (bs wWho)]) (AV.own (0 : Nat) (5 : Nat) (0 : Nat) (1 : Nat) (1 : Nat)) ([some { es := (5 : Nat), n := (1 : Nat), mu := true, f := Rep.lst [[Zi 4, Zi 0, Zi 0, Zi 0, AV.bool true]] }]) (.ff (.req ((0 : Int) ≤ IntKind.wrap IntKind.i64 (IntKind.wrap IntKind.i64 ((0 : Int) + (1 : Int)) + (1 : Int)) ∧ IntKind.wrap IntKind.i64 (IntKind.wrap IntKind.i64 ((0 : Int) + (1 : Int)) + (1 : Int)) < (↑(List.length ws) : Int)) (.sc (true) 132 ([AV.str (bs (List.getD ws (2) []))]) (AV.tup [Zi (numVal (List.getD ws (2 : Nat) [])), AV.bool (Option.isSome (numC (List.getD ws (2 : Nat) [])))]) (.br (!Option.isSome (numC (List.getD ws (2) []))) (.out (AV.tup [AV.agg [Zi 0, Zi 0, Zi 0, Zi 0, AV.bool false], AV.bool false]) [] (AV.tup [AV.agg (Cmd.cells (Option.getD (matchF { kind := (4 : Int), ws := [wDeposit, wMerchant, wWho], whom := (0 : Int) } ws) Cmd.zero)), AV.bool (Option.isSome (matchF { kind := (4 : Int), ws := [wDeposit, wMerchant, wWho], whom := (0 : Int) } ws))]) []) (.ff (.out (AV.tup [AV.agg [Zi 4, Zi (numVal (List.getD ws (2) [])), Zi 0, Zi 0, AV.bool true], AV.bool true]) [] (AV.tup [AV.agg (Cmd.cells (Option.getD (matchF { kind := (4 : Int), ws := [wDeposit, wMerchant, wWho], whom := (0 : Int) } ws) Cmd.zero)), AV.bool (Option.isSome (matchF { kind := (4 : Int), ws := [wDeposit, wMerchant, wWho], whom := (0 : Int) } ws))]) [])))))))))))))))))))))))
    (by kernel_rfl) ?_
  refine k_gc (c0) ?_
  refine k_br (fun h1 => ?_) (fun h1 => ?_)
  · have g1 := cnd_bne_t h1
    exact k_out (Ent.of_eq (by first | exact mO (nLen 3 rfl (by assumption)) | exact mO (nWord 0 wDeposit rfl (by decide) (by assumption)) | exact mO (nWord 1 wMerchant rfl (by decide) (by assumption)) | exact mO (nNum 2 wWho rfl (by decide) (by assumption)) | (have h := s3 (k := 4) (m := 0) (b := true) (W := wDeposit) (V := wMerchant) (by decide) (by decide) (by assumption) (by assumption) (by assumption) (by assumption); rw [show matchF ⟨4, [wDeposit, wMerchant, wWho], 0⟩ ws = _ from h]; rfl)))
  · have g1 := cnd_bne_f h1
    refine k_tt ?_
    refine k_req ((by first | omega | decide | (rw [g1]; decide))) ?_
    refine k_gc (f0 ((4 : Int)) ((0 : Int)) ((0 : Int)) ((0 : Int)) (true)) ?_
    refine k_tt ?_
    refine k_req ((by first | omega | decide | (rw [g1]; decide))) ?_
    refine k_br (fun h8 => ?_) (fun h8 => ?_)
    · have g8 := (cnd_not_t cnd_id_f) h8
      exact k_out (Ent.of_eq (by first | exact mO (nLen 3 rfl (by assumption)) | exact mO (nWord 0 wDeposit rfl (by decide) (by assumption)) | exact mO (nWord 1 wMerchant rfl (by decide) (by assumption)) | exact mO (nNum 2 wWho rfl (by decide) (by assumption)) | (have h := s3 (k := 4) (m := 0) (b := true) (W := wDeposit) (V := wMerchant) (by decide) (by decide) (by assumption) (by assumption) (by assumption) (by assumption); rw [show matchF ⟨4, [wDeposit, wMerchant, wWho], 0⟩ ws = _ from h]; rfl)))
    · have g8 := (cnd_not_f cnd_id_t) h8
      refine k_tt ?_
      refine k_req ((by first | omega | decide | (rw [g1]; decide))) ?_
      refine k_gc (f1 ((4 : Int)) ((0 : Int)) ((0 : Int)) ((0 : Int)) (true)) ?_
      refine k_tt ?_
      refine k_req ((by first | omega | decide | (rw [g1]; decide))) ?_
      refine k_br (fun h15 => ?_) (fun h15 => ?_)
      · have g15 := (cnd_not_t cnd_id_f) h15
        exact k_out (Ent.of_eq (by first | exact mO (nLen 3 rfl (by assumption)) | exact mO (nWord 0 wDeposit rfl (by decide) (by assumption)) | exact mO (nWord 1 wMerchant rfl (by decide) (by assumption)) | exact mO (nNum 2 wWho rfl (by decide) (by assumption)) | (have h := s3 (k := 4) (m := 0) (b := true) (W := wDeposit) (V := wMerchant) (by decide) (by decide) (by assumption) (by assumption) (by assumption) (by assumption); rw [show matchF ⟨4, [wDeposit, wMerchant, wWho], 0⟩ ws = _ from h]; rfl)))
      · have g15 := (cnd_not_f cnd_id_t) h15
        refine k_tt ?_
        refine k_req ((by first | omega | decide | (rw [g1]; decide))) ?_
        refine k_gc ((field_1 m) ((4 : Int)) ((0 : Int)) ((0 : Int)) ((0 : Int)) (true)) ?_
        refine k_ff ?_
        refine k_req ((by first | omega | decide | (rw [g1]; decide))) ?_
        refine k_sc (n2) ?_
        refine k_br (fun h23 => ?_) (fun h23 => ?_)
        · have g23 := (cnd_not_t cnd_id_f) h23
          exact k_out (Ent.of_eq (by first | exact mO (nLen 3 rfl (by assumption)) | exact mO (nWord 0 wDeposit rfl (by decide) (by assumption)) | exact mO (nWord 1 wMerchant rfl (by decide) (by assumption)) | exact mO (nNum 2 wWho rfl (by decide) (by assumption)) | (have h := s3 (k := 4) (m := 0) (b := true) (W := wDeposit) (V := wMerchant) (by decide) (by decide) (by assumption) (by assumption) (by assumption) (by assumption); rw [show matchF ⟨4, [wDeposit, wMerchant, wWho], 0⟩ ws = _ from h]; rfl)))
        · have g23 := (cnd_not_f cnd_id_t) h23
          refine k_ff ?_
          exact k_out (Ent.of_eq (by first | exact mO (nLen 3 rfl (by assumption)) | exact mO (nWord 0 wDeposit rfl (by decide) (by assumption)) | exact mO (nWord 1 wMerchant rfl (by decide) (by assumption)) | exact mO (nNum 2 wWho rfl (by decide) (by assumption)) | (have h := s3 (k := 4) (m := 0) (b := true) (W := wDeposit) (V := wMerchant) (by decide) (by decide) (by assumption) (by assumption) (by assumption) (by assumption); rw [show matchF ⟨4, [wDeposit, wMerchant, wWho], 0⟩ ws = _ from h]; rfl)))

theorem match_4 (m : GP) (ws : List Str) (hw : ∀ w ∈ ws, w.length ≤ 281474976710656) (hn : ws.length < 9223372036854775808) : Pure Tryz.prog (gl0 m) 85 [.agg [.int .i64 4, .str (bs wf4), .int .i64 1], wlA ws] (.tup [.agg (Cmd.cells ((matchF ⟨4, [wDeposit, wHolder, wWho], 1⟩ ws).getD .zero)), .bool (matchF ⟨4, [wDeposit, wHolder, wWho], 1⟩ ws).isSome]) := by
  have c0 := fields_4 m
  have f0 := fun c0 c1 c2 c3 c4 => field_0 m c0 c1 c2 c3 c4 wDeposit (fd _ (by decide)).1 (fd _ (by decide)).2.1 (fd _ (by decide)).2.2
  have f1 := fun c0 c1 c2 c3 c4 => field_0 m c0 c1 c2 c3 c4 wHolder (fd _ (by decide)).1 (fd _ (by decide)).2.1 (fd _ (by decide)).2.2
  have n2 := number_c m (ws.getD 2 []) (getD_len hw)
  refine pure_sk (own := (owM 5)) Tryz.func85 (by kernel_rfl) mixed (by kernel_rfl)
    (.gc 86 ([]) ([AV.str (bs wf4)]) (AV.osl (0 : Nat) (1 : Nat) (0 : Nat) (3 : Nat)) ([some { es := (1 : Nat), n := (3 : Nat), mu := true, f := Rep.lst [[AV.str (bs wDeposit)], [AV.str (bs wHolder)], [AV.str (bs wWho)]] }]) (.br ((↑(List.length ws) : Int) != (↑(3) : Int)) (.out (AV.tup [AV.agg [Zi 0, Zi 0, Zi 0, Zi 0, AV.bool false], AV.bool false]) [] (AV.tup [AV.agg (Cmd.cells (Option.getD (matchF { kind := (4 : Int), ws := [wDeposit, wHolder, wWho], whom := (1 : Int) } ws) Cmd.zero)), AV.bool (Option.isSome (matchF { kind := (4 : Int), ws := [wDeposit, wHolder, wWho], whom := (1 : Int) } ws))]) []) (.tt (.req ((0 : Int) ≤ (0 : Int) ∧ (0 : Int) < (↑(3) : Int)) (.gc 131 ([{ es := 5, n := 1, mu := true, f := Rep.lst [[Zi 4, Zi 0, Zi 1, Zi 0, AV.bool true]] }]) ([AV.own (0) (5) (0) (0) (5), AV.str (bs wDeposit)]) (AV.raw (Value.pointer none)) ([some { es := (5 : Nat), n := (1 : Nat), mu := true, f := Rep.lst [[Zi 4, Zi 0, Zi 1, Zi 0, AV.bool true]] }]) (.tt (.req ((0 : Int) ≤ (0 : Int) ∧ (0 : Int) < (↑(List.length ws) : Int)) (.br (!ByteArray.toList (bs (List.getD ws (Int.toNat (0 : Int)) [])) == ByteArray.toList (bs wDeposit)) (.out (AV.tup [AV.agg [Zi 0, Zi 0, Zi 0, Zi 0, AV.bool false], AV.bool false]) [] (AV.tup [AV.agg (Cmd.cells (Option.getD (matchF { kind := (4 : Int), ws := [wDeposit, wHolder, wWho], whom := (1 : Int) } ws) Cmd.zero)), AV.bool (Option.isSome (matchF { kind := (4 : Int), ws := [wDeposit, wHolder, wWho], whom := (1 : Int) } ws))]) []) (.tt (.req ((0 : Int) ≤ IntKind.wrap IntKind.i64 ((0 : Int) + (1 : Int)) ∧ IntKind.wrap IntKind.i64 ((0 : Int) + (1 : Int)) < (↑(3) : Int)) (.gc 131 ([{ es := 5, n := 1, mu := true, f := Rep.lst [[Zi 4, Zi 0, Zi 1, Zi 0, AV.bool true]] }]) ([AV.own (0) (5) (0) (0) (5), AV.str (bs wHolder)]) (AV.raw (Value.pointer none)) ([some { es := (5 : Nat), n := (1 : Nat), mu := true, f := Rep.lst [[Zi 4, Zi 0, Zi 1, Zi 0, AV.bool true]] }]) (.tt (.req ((0 : Int) ≤ IntKind.wrap IntKind.i64 ((0 : Int) + (1 : Int)) ∧ IntKind.wrap IntKind.i64 ((0 : Int) + (1 : Int)) < (↑(List.length ws) : Int)) (.br (!ByteArray.toList (bs (List.getD ws (Int.toNat (IntKind.wrap IntKind.i64 ((0 : Int) + (1 : Int)))) [])) == ByteArray.toList (bs wHolder)) (.out (AV.tup [AV.agg [Zi 0, Zi 0, Zi 0, Zi 0, AV.bool false], AV.bool false]) [] (AV.tup [AV.agg (Cmd.cells (Option.getD (matchF { kind := (4 : Int), ws := [wDeposit, wHolder, wWho], whom := (1 : Int) } ws) Cmd.zero)), AV.bool (Option.isSome (matchF { kind := (4 : Int), ws := [wDeposit, wHolder, wWho], whom := (1 : Int) } ws))]) []) (.tt (.req ((0 : Int) ≤ IntKind.wrap IntKind.i64 (IntKind.wrap IntKind.i64 ((0 : Int) + (1 : Int)) + (1 : Int)) ∧ IntKind.wrap IntKind.i64 (IntKind.wrap IntKind.i64 ((0 : Int) + (1 : Int)) + (1 : Int)) < (↑(3) : Int)) (.gc 131 ([{ es := 5, n := 1, mu := true, f := Rep.lst [[Zi 4, Zi 0, Zi 1, Zi 0, AV.bool true]] }]) ([AV.own (0) (5) (0) (0) (5), AV.str (bs wWho)]) (AV.own (0 : Nat) (5 : Nat) (0 : Nat) (1 : Nat) (1 : Nat)) ([some { es := (5 : Nat), n := (1 : Nat), mu := true, f := Rep.lst [[Zi 4, Zi 0, Zi 1, Zi 0, AV.bool true]] }]) (.ff (.req ((0 : Int) ≤ IntKind.wrap IntKind.i64 (IntKind.wrap IntKind.i64 ((0 : Int) + (1 : Int)) + (1 : Int)) ∧ IntKind.wrap IntKind.i64 (IntKind.wrap IntKind.i64 ((0 : Int) + (1 : Int)) + (1 : Int)) < (↑(List.length ws) : Int)) (.sc (true) 132 ([AV.str (bs (List.getD ws (2) []))]) (AV.tup [Zi (numVal (List.getD ws (2 : Nat) [])), AV.bool (Option.isSome (numC (List.getD ws (2 : Nat) [])))]) (.br (!Option.isSome (numC (List.getD ws (2) []))) (.out (AV.tup [AV.agg [Zi 0, Zi 0, Zi 0, Zi 0, AV.bool false], AV.bool false]) [] (AV.tup [AV.agg (Cmd.cells (Option.getD (matchF { kind := (4 : Int), ws := [wDeposit, wHolder, wWho], whom := (1 : Int) } ws) Cmd.zero)), AV.bool (Option.isSome (matchF { kind := (4 : Int), ws := [wDeposit, wHolder, wWho], whom := (1 : Int) } ws))]) []) (.ff (.out (AV.tup [AV.agg [Zi 4, Zi (numVal (List.getD ws (2) [])), Zi 1, Zi 0, AV.bool true], AV.bool true]) [] (AV.tup [AV.agg (Cmd.cells (Option.getD (matchF { kind := (4 : Int), ws := [wDeposit, wHolder, wWho], whom := (1 : Int) } ws) Cmd.zero)), AV.bool (Option.isSome (matchF { kind := (4 : Int), ws := [wDeposit, wHolder, wWho], whom := (1 : Int) } ws))]) [])))))))))))))))))))))))
    (by kernel_rfl) ?_
  refine k_gc (c0) ?_
  refine k_br (fun h1 => ?_) (fun h1 => ?_)
  · have g1 := cnd_bne_t h1
    exact k_out (Ent.of_eq (by first | exact mO (nLen 3 rfl (by assumption)) | exact mO (nWord 0 wDeposit rfl (by decide) (by assumption)) | exact mO (nWord 1 wHolder rfl (by decide) (by assumption)) | exact mO (nNum 2 wWho rfl (by decide) (by assumption)) | (have h := s3 (k := 4) (m := 1) (b := true) (W := wDeposit) (V := wHolder) (by decide) (by decide) (by assumption) (by assumption) (by assumption) (by assumption); rw [show matchF ⟨4, [wDeposit, wHolder, wWho], 1⟩ ws = _ from h]; rfl)))
  · have g1 := cnd_bne_f h1
    refine k_tt ?_
    refine k_req ((by first | omega | decide | (rw [g1]; decide))) ?_
    refine k_gc (f0 ((4 : Int)) ((0 : Int)) ((1 : Int)) ((0 : Int)) (true)) ?_
    refine k_tt ?_
    refine k_req ((by first | omega | decide | (rw [g1]; decide))) ?_
    refine k_br (fun h8 => ?_) (fun h8 => ?_)
    · have g8 := (cnd_not_t cnd_id_f) h8
      exact k_out (Ent.of_eq (by first | exact mO (nLen 3 rfl (by assumption)) | exact mO (nWord 0 wDeposit rfl (by decide) (by assumption)) | exact mO (nWord 1 wHolder rfl (by decide) (by assumption)) | exact mO (nNum 2 wWho rfl (by decide) (by assumption)) | (have h := s3 (k := 4) (m := 1) (b := true) (W := wDeposit) (V := wHolder) (by decide) (by decide) (by assumption) (by assumption) (by assumption) (by assumption); rw [show matchF ⟨4, [wDeposit, wHolder, wWho], 1⟩ ws = _ from h]; rfl)))
    · have g8 := (cnd_not_f cnd_id_t) h8
      refine k_tt ?_
      refine k_req ((by first | omega | decide | (rw [g1]; decide))) ?_
      refine k_gc (f1 ((4 : Int)) ((0 : Int)) ((1 : Int)) ((0 : Int)) (true)) ?_
      refine k_tt ?_
      refine k_req ((by first | omega | decide | (rw [g1]; decide))) ?_
      refine k_br (fun h15 => ?_) (fun h15 => ?_)
      · have g15 := (cnd_not_t cnd_id_f) h15
        exact k_out (Ent.of_eq (by first | exact mO (nLen 3 rfl (by assumption)) | exact mO (nWord 0 wDeposit rfl (by decide) (by assumption)) | exact mO (nWord 1 wHolder rfl (by decide) (by assumption)) | exact mO (nNum 2 wWho rfl (by decide) (by assumption)) | (have h := s3 (k := 4) (m := 1) (b := true) (W := wDeposit) (V := wHolder) (by decide) (by decide) (by assumption) (by assumption) (by assumption) (by assumption); rw [show matchF ⟨4, [wDeposit, wHolder, wWho], 1⟩ ws = _ from h]; rfl)))
      · have g15 := (cnd_not_f cnd_id_t) h15
        refine k_tt ?_
        refine k_req ((by first | omega | decide | (rw [g1]; decide))) ?_
        refine k_gc ((field_1 m) ((4 : Int)) ((0 : Int)) ((1 : Int)) ((0 : Int)) (true)) ?_
        refine k_ff ?_
        refine k_req ((by first | omega | decide | (rw [g1]; decide))) ?_
        refine k_sc (n2) ?_
        refine k_br (fun h23 => ?_) (fun h23 => ?_)
        · have g23 := (cnd_not_t cnd_id_f) h23
          exact k_out (Ent.of_eq (by first | exact mO (nLen 3 rfl (by assumption)) | exact mO (nWord 0 wDeposit rfl (by decide) (by assumption)) | exact mO (nWord 1 wHolder rfl (by decide) (by assumption)) | exact mO (nNum 2 wWho rfl (by decide) (by assumption)) | (have h := s3 (k := 4) (m := 1) (b := true) (W := wDeposit) (V := wHolder) (by decide) (by decide) (by assumption) (by assumption) (by assumption) (by assumption); rw [show matchF ⟨4, [wDeposit, wHolder, wWho], 1⟩ ws = _ from h]; rfl)))
        · have g23 := (cnd_not_f cnd_id_t) h23
          refine k_ff ?_
          exact k_out (Ent.of_eq (by first | exact mO (nLen 3 rfl (by assumption)) | exact mO (nWord 0 wDeposit rfl (by decide) (by assumption)) | exact mO (nWord 1 wHolder rfl (by decide) (by assumption)) | exact mO (nNum 2 wWho rfl (by decide) (by assumption)) | (have h := s3 (k := 4) (m := 1) (b := true) (W := wDeposit) (V := wHolder) (by decide) (by decide) (by assumption) (by assumption) (by assumption) (by assumption); rw [show matchF ⟨4, [wDeposit, wHolder, wWho], 1⟩ ws = _ from h]; rfl)))

theorem match_5 (m : GP) (ws : List Str) (hw : ∀ w ∈ ws, w.length ≤ 281474976710656) (hn : ws.length < 9223372036854775808) : Pure Tryz.prog (gl0 m) 85 [.agg [.int .i64 5, .str (bs wf5), .int .i64 0], wlA ws] (.tup [.agg (Cmd.cells ((matchF ⟨5, [wDouble, wWho, wWhom, wAmount], 0⟩ ws).getD .zero)), .bool (matchF ⟨5, [wDouble, wWho, wWhom, wAmount], 0⟩ ws).isSome]) := by
  have c0 := fields_5 m
  have f0 := fun c0 c1 c2 c3 c4 => field_0 m c0 c1 c2 c3 c4 wDouble (fd _ (by decide)).1 (fd _ (by decide)).2.1 (fd _ (by decide)).2.2
  have n1 := number_c m (ws.getD 1 []) (getD_len hw)
  have n2 := number_c m (ws.getD 2 []) (getD_len hw)
  have n3 := number_c m (ws.getD 3 []) (getD_len hw)
  refine pure_sk (own := (owM 5)) Tryz.func85 (by kernel_rfl) mixed (by kernel_rfl)
    (.gc 86 ([]) ([AV.str (bs wf5)]) (AV.osl (0 : Nat) (1 : Nat) (0 : Nat) (4 : Nat)) ([some { es := (1 : Nat), n := (4 : Nat), mu := true, f := Rep.lst [[AV.str (bs wDouble)], [AV.str (bs wWho)], [AV.str (bs wWhom)], [AV.str (bs wAmount)]] }]) (.br ((↑(List.length ws) : Int) != (↑(4) : Int)) (.out (AV.tup [AV.agg [Zi 0, Zi 0, Zi 0, Zi 0, AV.bool false], AV.bool false]) [] (AV.tup [AV.agg (Cmd.cells (Option.getD (matchF { kind := (5 : Int), ws := [wDouble, wWho, wWhom, wAmount], whom := (0 : Int) } ws) Cmd.zero)), AV.bool (Option.isSome (matchF { kind := (5 : Int), ws := [wDouble, wWho, wWhom, wAmount], whom := (0 : Int) } ws))]) []) (.tt (.req ((0 : Int) ≤ (0 : Int) ∧ (0 : Int) < (↑(4) : Int)) (.gc 131 ([{ es := 5, n := 1, mu := true, f := Rep.lst [[Zi 5, Zi 0, Zi 0, Zi 0, AV.bool false]] }]) ([AV.own (0) (5) (0) (0) (5), AV.str (bs wDouble)]) (AV.raw (Value.pointer none)) ([some { es := (5 : Nat), n := (1 : Nat), mu := true, f := Rep.lst [[Zi 5, Zi 0, Zi 0, Zi 0, AV.bool false]] }]) (.tt (.req ((0 : Int) ≤ (0 : Int) ∧ (0 : Int) < (↑(List.length ws) : Int)) (.br (!ByteArray.toList (bs (List.getD ws (Int.toNat (0 : Int)) [])) == ByteArray.toList (bs wDouble)) (.out (AV.tup [AV.agg [Zi 0, Zi 0, Zi 0, Zi 0, AV.bool false], AV.bool false]) [] (AV.tup [AV.agg (Cmd.cells (Option.getD (matchF { kind := (5 : Int), ws := [wDouble, wWho, wWhom, wAmount], whom := (0 : Int) } ws) Cmd.zero)), AV.bool (Option.isSome (matchF { kind := (5 : Int), ws := [wDouble, wWho, wWhom, wAmount], whom := (0 : Int) } ws))]) []) (.tt (.req ((0 : Int) ≤ IntKind.wrap IntKind.i64 ((0 : Int) + (1 : Int)) ∧ IntKind.wrap IntKind.i64 ((0 : Int) + (1 : Int)) < (↑(4) : Int)) (.gc 131 ([{ es := 5, n := 1, mu := true, f := Rep.lst [[Zi 5, Zi 0, Zi 0, Zi 0, AV.bool false]] }]) ([AV.own (0) (5) (0) (0) (5), AV.str (bs wWho)]) (AV.own (0 : Nat) (5 : Nat) (0 : Nat) (1 : Nat) (1 : Nat)) ([some { es := (5 : Nat), n := (1 : Nat), mu := true, f := Rep.lst [[Zi 5, Zi 0, Zi 0, Zi 0, AV.bool false]] }]) (.ff (.req ((0 : Int) ≤ IntKind.wrap IntKind.i64 ((0 : Int) + (1 : Int)) ∧ IntKind.wrap IntKind.i64 ((0 : Int) + (1 : Int)) < (↑(List.length ws) : Int)) (.sc (true) 132 ([AV.str (bs (List.getD ws (1) []))]) (AV.tup [Zi (numVal (List.getD ws (1 : Nat) [])), AV.bool (Option.isSome (numC (List.getD ws (1 : Nat) [])))]) (.br (!Option.isSome (numC (List.getD ws (1) []))) (.out (AV.tup [AV.agg [Zi 0, Zi 0, Zi 0, Zi 0, AV.bool false], AV.bool false]) [] (AV.tup [AV.agg (Cmd.cells (Option.getD (matchF { kind := (5 : Int), ws := [wDouble, wWho, wWhom, wAmount], whom := (0 : Int) } ws) Cmd.zero)), AV.bool (Option.isSome (matchF { kind := (5 : Int), ws := [wDouble, wWho, wWhom, wAmount], whom := (0 : Int) } ws))]) []) (.tt (.req ((0 : Int) ≤ IntKind.wrap IntKind.i64 (IntKind.wrap IntKind.i64 ((0 : Int) + (1 : Int)) + (1 : Int)) ∧ IntKind.wrap IntKind.i64 (IntKind.wrap IntKind.i64 ((0 : Int) + (1 : Int)) + (1 : Int)) < (↑(4) : Int)) (.gc 131 ([{ es := 5, n := 1, mu := true, f := Rep.lst [[Zi 5, Zi (numVal (List.getD ws (1 : Nat) [])), Zi 0, Zi 0, AV.bool false]] }]) ([AV.own (0) (5) (0) (0) (5), AV.str (bs wWhom)]) (AV.own (0 : Nat) (5 : Nat) (0 : Nat) (2 : Nat) (1 : Nat)) ([some { es := (5 : Nat), n := (1 : Nat), mu := true, f := Rep.lst [[Zi 5, Zi (numVal (List.getD ws (1 : Nat) [])), Zi 0, Zi 0, AV.bool false]] }]) (.ff (.req ((0 : Int) ≤ IntKind.wrap IntKind.i64 (IntKind.wrap IntKind.i64 ((0 : Int) + (1 : Int)) + (1 : Int)) ∧ IntKind.wrap IntKind.i64 (IntKind.wrap IntKind.i64 ((0 : Int) + (1 : Int)) + (1 : Int)) < (↑(List.length ws) : Int)) (.sc (true) 132 ([AV.str (bs (List.getD ws (2) []))]) (AV.tup [Zi (numVal (List.getD ws (2 : Nat) [])), AV.bool (Option.isSome (numC (List.getD ws (2 : Nat) [])))]) (.br (!Option.isSome (numC (List.getD ws (2) []))) (.out (AV.tup [AV.agg [Zi 0, Zi 0, Zi 0, Zi 0, AV.bool false], AV.bool false]) [] (AV.tup [AV.agg (Cmd.cells (Option.getD (matchF { kind := (5 : Int), ws := [wDouble, wWho, wWhom, wAmount], whom := (0 : Int) } ws) Cmd.zero)), AV.bool (Option.isSome (matchF { kind := (5 : Int), ws := [wDouble, wWho, wWhom, wAmount], whom := (0 : Int) } ws))]) []) (.tt (.req ((0 : Int) ≤ IntKind.wrap IntKind.i64 (IntKind.wrap IntKind.i64 (IntKind.wrap IntKind.i64 ((0 : Int) + (1 : Int)) + (1 : Int)) + (1 : Int)) ∧ IntKind.wrap IntKind.i64 (IntKind.wrap IntKind.i64 (IntKind.wrap IntKind.i64 ((0 : Int) + (1 : Int)) + (1 : Int)) + (1 : Int)) < (↑(4) : Int)) (.gc 131 ([{ es := 5, n := 1, mu := true, f := Rep.lst [[Zi 5, Zi (numVal (List.getD ws (1 : Nat) [])), Zi (numVal (List.getD ws (2 : Nat) [])), Zi 0, AV.bool false]] }]) ([AV.own (0) (5) (0) (0) (5), AV.str (bs wAmount)]) (AV.own (0 : Nat) (5 : Nat) (0 : Nat) (3 : Nat) (1 : Nat)) ([some { es := (5 : Nat), n := (1 : Nat), mu := true, f := Rep.lst [[Zi 5, Zi (numVal (List.getD ws (1 : Nat) [])), Zi (numVal (List.getD ws (2 : Nat) [])), Zi 0, AV.bool false]] }]) (.ff (.req ((0 : Int) ≤ IntKind.wrap IntKind.i64 (IntKind.wrap IntKind.i64 (IntKind.wrap IntKind.i64 ((0 : Int) + (1 : Int)) + (1 : Int)) + (1 : Int)) ∧ IntKind.wrap IntKind.i64 (IntKind.wrap IntKind.i64 (IntKind.wrap IntKind.i64 ((0 : Int) + (1 : Int)) + (1 : Int)) + (1 : Int)) < (↑(List.length ws) : Int)) (.sc (true) 132 ([AV.str (bs (List.getD ws (3) []))]) (AV.tup [Zi (numVal (List.getD ws (3 : Nat) [])), AV.bool (Option.isSome (numC (List.getD ws (3 : Nat) [])))]) (.br (!Option.isSome (numC (List.getD ws (3) []))) (.out (AV.tup [AV.agg [Zi 0, Zi 0, Zi 0, Zi 0, AV.bool false], AV.bool false]) [] (AV.tup [AV.agg (Cmd.cells (Option.getD (matchF { kind := (5 : Int), ws := [wDouble, wWho, wWhom, wAmount], whom := (0 : Int) } ws) Cmd.zero)), AV.bool (Option.isSome (matchF { kind := (5 : Int), ws := [wDouble, wWho, wWhom, wAmount], whom := (0 : Int) } ws))]) []) (.ff (.out (AV.tup [AV.agg [Zi 5, Zi (numVal (List.getD ws (1) [])), Zi (numVal (List.getD ws (2) [])), Zi (numVal (List.getD ws (3) [])), AV.bool false], AV.bool true]) [] (AV.tup [AV.agg (Cmd.cells (Option.getD (matchF { kind := (5 : Int), ws := [wDouble, wWho, wWhom, wAmount], whom := (0 : Int) } ws) Cmd.zero)), AV.bool (Option.isSome (matchF { kind := (5 : Int), ws := [wDouble, wWho, wWhom, wAmount], whom := (0 : Int) } ws))]) [])))))))))))))))))))))))))))))))
    (by kernel_rfl) ?_
  refine k_gc (c0) ?_
  refine k_br (fun h1 => ?_) (fun h1 => ?_)
  · have g1 := cnd_bne_t h1
    exact k_out (Ent.of_eq (by first | exact mO (nLen 4 rfl (by assumption)) | exact mO (nWord 0 wDouble rfl (by decide) (by assumption)) | exact mO (nNum 1 wWho rfl (by decide) (by assumption)) | exact mO (nNum 2 wWhom rfl (by decide) (by assumption)) | exact mO (nNum 3 wAmount rfl (by decide) (by assumption)) | (have h := s2 (k := 5) (b := false) (W := wDouble) (by decide) (by assumption) (by assumption) (by assumption) (by assumption) (by assumption); rw [show matchF ⟨5, [wDouble, wWho, wWhom, wAmount], 0⟩ ws = _ from h]; rfl)))
  · have g1 := cnd_bne_f h1
    refine k_tt ?_
    refine k_req ((by first | omega | decide | (rw [g1]; decide))) ?_
    refine k_gc (f0 ((5 : Int)) ((0 : Int)) ((0 : Int)) ((0 : Int)) (false)) ?_
    refine k_tt ?_
    refine k_req ((by first | omega | decide | (rw [g1]; decide))) ?_
    refine k_br (fun h8 => ?_) (fun h8 => ?_)
    · have g8 := (cnd_not_t cnd_id_f) h8
      exact k_out (Ent.of_eq (by first | exact mO (nLen 4 rfl (by assumption)) | exact mO (nWord 0 wDouble rfl (by decide) (by assumption)) | exact mO (nNum 1 wWho rfl (by decide) (by assumption)) | exact mO (nNum 2 wWhom rfl (by decide) (by assumption)) | exact mO (nNum 3 wAmount rfl (by decide) (by assumption)) | (have h := s2 (k := 5) (b := false) (W := wDouble) (by decide) (by assumption) (by assumption) (by assumption) (by assumption) (by assumption); rw [show matchF ⟨5, [wDouble, wWho, wWhom, wAmount], 0⟩ ws = _ from h]; rfl)))
    · have g8 := (cnd_not_f cnd_id_t) h8
      refine k_tt ?_
      refine k_req ((by first | omega | decide | (rw [g1]; decide))) ?_
      refine k_gc ((field_1 m) ((5 : Int)) ((0 : Int)) ((0 : Int)) ((0 : Int)) (false)) ?_
      refine k_ff ?_
      refine k_req ((by first | omega | decide | (rw [g1]; decide))) ?_
      refine k_sc (n1) ?_
      refine k_br (fun h16 => ?_) (fun h16 => ?_)
      · have g16 := (cnd_not_t cnd_id_f) h16
        exact k_out (Ent.of_eq (by first | exact mO (nLen 4 rfl (by assumption)) | exact mO (nWord 0 wDouble rfl (by decide) (by assumption)) | exact mO (nNum 1 wWho rfl (by decide) (by assumption)) | exact mO (nNum 2 wWhom rfl (by decide) (by assumption)) | exact mO (nNum 3 wAmount rfl (by decide) (by assumption)) | (have h := s2 (k := 5) (b := false) (W := wDouble) (by decide) (by assumption) (by assumption) (by assumption) (by assumption) (by assumption); rw [show matchF ⟨5, [wDouble, wWho, wWhom, wAmount], 0⟩ ws = _ from h]; rfl)))
      · have g16 := (cnd_not_f cnd_id_t) h16
        refine k_tt ?_
        refine k_req ((by first | omega | decide | (rw [g1]; decide))) ?_
        refine k_gc ((field_2 m) ((5 : Int)) (numVal (List.getD ws (1 : Nat) [])) ((0 : Int)) ((0 : Int)) (false)) ?_
        refine k_ff ?_
        refine k_req ((by first | omega | decide | (rw [g1]; decide))) ?_
        refine k_sc (n2) ?_
        refine k_br (fun h24 => ?_) (fun h24 => ?_)
        · have g24 := (cnd_not_t cnd_id_f) h24
          exact k_out (Ent.of_eq (by first | exact mO (nLen 4 rfl (by assumption)) | exact mO (nWord 0 wDouble rfl (by decide) (by assumption)) | exact mO (nNum 1 wWho rfl (by decide) (by assumption)) | exact mO (nNum 2 wWhom rfl (by decide) (by assumption)) | exact mO (nNum 3 wAmount rfl (by decide) (by assumption)) | (have h := s2 (k := 5) (b := false) (W := wDouble) (by decide) (by assumption) (by assumption) (by assumption) (by assumption) (by assumption); rw [show matchF ⟨5, [wDouble, wWho, wWhom, wAmount], 0⟩ ws = _ from h]; rfl)))
        · have g24 := (cnd_not_f cnd_id_t) h24
          refine k_tt ?_
          refine k_req ((by first | omega | decide | (rw [g1]; decide))) ?_
          refine k_gc ((field_3 m) ((5 : Int)) (numVal (List.getD ws (1 : Nat) [])) (numVal (List.getD ws (2 : Nat) [])) ((0 : Int)) (false)) ?_
          refine k_ff ?_
          refine k_req ((by first | omega | decide | (rw [g1]; decide))) ?_
          refine k_sc (n3) ?_
          refine k_br (fun h32 => ?_) (fun h32 => ?_)
          · have g32 := (cnd_not_t cnd_id_f) h32
            exact k_out (Ent.of_eq (by first | exact mO (nLen 4 rfl (by assumption)) | exact mO (nWord 0 wDouble rfl (by decide) (by assumption)) | exact mO (nNum 1 wWho rfl (by decide) (by assumption)) | exact mO (nNum 2 wWhom rfl (by decide) (by assumption)) | exact mO (nNum 3 wAmount rfl (by decide) (by assumption)) | (have h := s2 (k := 5) (b := false) (W := wDouble) (by decide) (by assumption) (by assumption) (by assumption) (by assumption) (by assumption); rw [show matchF ⟨5, [wDouble, wWho, wWhom, wAmount], 0⟩ ws = _ from h]; rfl)))
          · have g32 := (cnd_not_f cnd_id_t) h32
            refine k_ff ?_
            exact k_out (Ent.of_eq (by first | exact mO (nLen 4 rfl (by assumption)) | exact mO (nWord 0 wDouble rfl (by decide) (by assumption)) | exact mO (nNum 1 wWho rfl (by decide) (by assumption)) | exact mO (nNum 2 wWhom rfl (by decide) (by assumption)) | exact mO (nNum 3 wAmount rfl (by decide) (by assumption)) | (have h := s2 (k := 5) (b := false) (W := wDouble) (by decide) (by assumption) (by assumption) (by assumption) (by assumption) (by assumption); rw [show matchF ⟨5, [wDouble, wWho, wWhom, wAmount], 0⟩ ws = _ from h]; rfl)))

theorem match_6 (m : GP) (ws : List Str) (hw : ∀ w ∈ ws, w.length ≤ 281474976710656) (hn : ws.length < 9223372036854775808) : Pure Tryz.prog (gl0 m) 85 [.agg [.int .i64 6, .str (bs wf6), .int .i64 0], wlA ws] (.tup [.agg (Cmd.cells ((matchF ⟨6, [wTrace, wWho], 0⟩ ws).getD .zero)), .bool (matchF ⟨6, [wTrace, wWho], 0⟩ ws).isSome]) := by
  have c0 := fields_6 m
  have f0 := fun c0 c1 c2 c3 c4 => field_0 m c0 c1 c2 c3 c4 wTrace (fd _ (by decide)).1 (fd _ (by decide)).2.1 (fd _ (by decide)).2.2
  have n1 := number_c m (ws.getD 1 []) (getD_len hw)
  refine pure_sk (own := (owM 5)) Tryz.func85 (by kernel_rfl) mixed (by kernel_rfl)
    (.gc 86 ([]) ([AV.str (bs wf6)]) (AV.osl (0 : Nat) (1 : Nat) (0 : Nat) (2 : Nat)) ([some { es := (1 : Nat), n := (2 : Nat), mu := true, f := Rep.lst [[AV.str (bs wTrace)], [AV.str (bs wWho)]] }]) (.br ((↑(List.length ws) : Int) != (↑(2) : Int)) (.out (AV.tup [AV.agg [Zi 0, Zi 0, Zi 0, Zi 0, AV.bool false], AV.bool false]) [] (AV.tup [AV.agg (Cmd.cells (Option.getD (matchF { kind := (6 : Int), ws := [wTrace, wWho], whom := (0 : Int) } ws) Cmd.zero)), AV.bool (Option.isSome (matchF { kind := (6 : Int), ws := [wTrace, wWho], whom := (0 : Int) } ws))]) []) (.tt (.req ((0 : Int) ≤ (0 : Int) ∧ (0 : Int) < (↑(2) : Int)) (.gc 131 ([{ es := 5, n := 1, mu := true, f := Rep.lst [[Zi 6, Zi 0, Zi 0, Zi 0, AV.bool true]] }]) ([AV.own (0) (5) (0) (0) (5), AV.str (bs wTrace)]) (AV.raw (Value.pointer none)) ([some { es := (5 : Nat), n := (1 : Nat), mu := true, f := Rep.lst [[Zi 6, Zi 0, Zi 0, Zi 0, AV.bool true]] }]) (.tt (.req ((0 : Int) ≤ (0 : Int) ∧ (0 : Int) < (↑(List.length ws) : Int)) (.br (!ByteArray.toList (bs (List.getD ws (Int.toNat (0 : Int)) [])) == ByteArray.toList (bs wTrace)) (.out (AV.tup [AV.agg [Zi 0, Zi 0, Zi 0, Zi 0, AV.bool false], AV.bool false]) [] (AV.tup [AV.agg (Cmd.cells (Option.getD (matchF { kind := (6 : Int), ws := [wTrace, wWho], whom := (0 : Int) } ws) Cmd.zero)), AV.bool (Option.isSome (matchF { kind := (6 : Int), ws := [wTrace, wWho], whom := (0 : Int) } ws))]) []) (.tt (.req ((0 : Int) ≤ IntKind.wrap IntKind.i64 ((0 : Int) + (1 : Int)) ∧ IntKind.wrap IntKind.i64 ((0 : Int) + (1 : Int)) < (↑(2) : Int)) (.gc 131 ([{ es := 5, n := 1, mu := true, f := Rep.lst [[Zi 6, Zi 0, Zi 0, Zi 0, AV.bool true]] }]) ([AV.own (0) (5) (0) (0) (5), AV.str (bs wWho)]) (AV.own (0 : Nat) (5 : Nat) (0 : Nat) (1 : Nat) (1 : Nat)) ([some { es := (5 : Nat), n := (1 : Nat), mu := true, f := Rep.lst [[Zi 6, Zi 0, Zi 0, Zi 0, AV.bool true]] }]) (.ff (.req ((0 : Int) ≤ IntKind.wrap IntKind.i64 ((0 : Int) + (1 : Int)) ∧ IntKind.wrap IntKind.i64 ((0 : Int) + (1 : Int)) < (↑(List.length ws) : Int)) (.sc (true) 132 ([AV.str (bs (List.getD ws (1) []))]) (AV.tup [Zi (numVal (List.getD ws (1 : Nat) [])), AV.bool (Option.isSome (numC (List.getD ws (1 : Nat) [])))]) (.br (!Option.isSome (numC (List.getD ws (1) []))) (.out (AV.tup [AV.agg [Zi 0, Zi 0, Zi 0, Zi 0, AV.bool false], AV.bool false]) [] (AV.tup [AV.agg (Cmd.cells (Option.getD (matchF { kind := (6 : Int), ws := [wTrace, wWho], whom := (0 : Int) } ws) Cmd.zero)), AV.bool (Option.isSome (matchF { kind := (6 : Int), ws := [wTrace, wWho], whom := (0 : Int) } ws))]) []) (.ff (.out (AV.tup [AV.agg [Zi 6, Zi (numVal (List.getD ws (1) [])), Zi 0, Zi 0, AV.bool true], AV.bool true]) [] (AV.tup [AV.agg (Cmd.cells (Option.getD (matchF { kind := (6 : Int), ws := [wTrace, wWho], whom := (0 : Int) } ws) Cmd.zero)), AV.bool (Option.isSome (matchF { kind := (6 : Int), ws := [wTrace, wWho], whom := (0 : Int) } ws))]) [])))))))))))))))))
    (by kernel_rfl) ?_
  refine k_gc (c0) ?_
  refine k_br (fun h1 => ?_) (fun h1 => ?_)
  · have g1 := cnd_bne_t h1
    exact k_out (Ent.of_eq (by first | exact mO (nLen 2 rfl (by assumption)) | exact mO (nWord 0 wTrace rfl (by decide) (by assumption)) | exact mO (nNum 1 wWho rfl (by decide) (by assumption)) | (have h := s4 (k := 6) (b := true) (W := wTrace) (by decide) (by assumption) (by assumption) (by assumption); rw [show matchF ⟨6, [wTrace, wWho], 0⟩ ws = _ from h]; rfl)))
  · have g1 := cnd_bne_f h1
    refine k_tt ?_
    refine k_req ((by first | omega | decide | (rw [g1]; decide))) ?_
    refine k_gc (f0 ((6 : Int)) ((0 : Int)) ((0 : Int)) ((0 : Int)) (true)) ?_
    refine k_tt ?_
    refine k_req ((by first | omega | decide | (rw [g1]; decide))) ?_
    refine k_br (fun h8 => ?_) (fun h8 => ?_)
    · have g8 := (cnd_not_t cnd_id_f) h8
      exact k_out (Ent.of_eq (by first | exact mO (nLen 2 rfl (by assumption)) | exact mO (nWord 0 wTrace rfl (by decide) (by assumption)) | exact mO (nNum 1 wWho rfl (by decide) (by assumption)) | (have h := s4 (k := 6) (b := true) (W := wTrace) (by decide) (by assumption) (by assumption) (by assumption); rw [show matchF ⟨6, [wTrace, wWho], 0⟩ ws = _ from h]; rfl)))
    · have g8 := (cnd_not_f cnd_id_t) h8
      refine k_tt ?_
      refine k_req ((by first | omega | decide | (rw [g1]; decide))) ?_
      refine k_gc ((field_1 m) ((6 : Int)) ((0 : Int)) ((0 : Int)) ((0 : Int)) (true)) ?_
      refine k_ff ?_
      refine k_req ((by first | omega | decide | (rw [g1]; decide))) ?_
      refine k_sc (n1) ?_
      refine k_br (fun h16 => ?_) (fun h16 => ?_)
      · have g16 := (cnd_not_t cnd_id_f) h16
        exact k_out (Ent.of_eq (by first | exact mO (nLen 2 rfl (by assumption)) | exact mO (nWord 0 wTrace rfl (by decide) (by assumption)) | exact mO (nNum 1 wWho rfl (by decide) (by assumption)) | (have h := s4 (k := 6) (b := true) (W := wTrace) (by decide) (by assumption) (by assumption) (by assumption); rw [show matchF ⟨6, [wTrace, wWho], 0⟩ ws = _ from h]; rfl)))
      · have g16 := (cnd_not_f cnd_id_t) h16
        refine k_ff ?_
        exact k_out (Ent.of_eq (by first | exact mO (nLen 2 rfl (by assumption)) | exact mO (nWord 0 wTrace rfl (by decide) (by assumption)) | exact mO (nNum 1 wWho rfl (by decide) (by assumption)) | (have h := s4 (k := 6) (b := true) (W := wTrace) (by decide) (by assumption) (by assumption) (by assumption); rw [show matchF ⟨6, [wTrace, wWho], 0⟩ ws = _ from h]; rfl)))

theorem match_7 (m : GP) (ws : List Str) (hw : ∀ w ∈ ws, w.length ≤ 281474976710656) (hn : ws.length < 9223372036854775808) : Pure Tryz.prog (gl0 m) 85 [.agg [.int .i64 7, .str (bs wf7), .int .i64 0], wlA ws] (.tup [.agg (Cmd.cells ((matchF ⟨7, [wClear], 0⟩ ws).getD .zero)), .bool (matchF ⟨7, [wClear], 0⟩ ws).isSome]) := by
  have c0 := fields_7 m
  have f0 := fun c0 c1 c2 c3 c4 => field_0 m c0 c1 c2 c3 c4 wClear (fd _ (by decide)).1 (fd _ (by decide)).2.1 (fd _ (by decide)).2.2
  refine pure_sk (own := (owM 5)) Tryz.func85 (by kernel_rfl) mixed (by kernel_rfl)
    (.gc 86 ([]) ([AV.str (bs wf7)]) (AV.osl (0 : Nat) (1 : Nat) (0 : Nat) (1 : Nat)) ([some { es := (1 : Nat), n := (1 : Nat), mu := true, f := Rep.lst [[AV.str (bs wClear)]] }]) (.br ((↑(List.length ws) : Int) != (↑(1) : Int)) (.out (AV.tup [AV.agg [Zi 0, Zi 0, Zi 0, Zi 0, AV.bool false], AV.bool false]) [] (AV.tup [AV.agg (Cmd.cells (Option.getD (matchF { kind := (7 : Int), ws := [wClear], whom := (0 : Int) } ws) Cmd.zero)), AV.bool (Option.isSome (matchF { kind := (7 : Int), ws := [wClear], whom := (0 : Int) } ws))]) []) (.tt (.req ((0 : Int) ≤ (0 : Int) ∧ (0 : Int) < (↑(1) : Int)) (.gc 131 ([{ es := 5, n := 1, mu := true, f := Rep.lst [[Zi 7, Zi 0, Zi 0, Zi 0, AV.bool true]] }]) ([AV.own (0) (5) (0) (0) (5), AV.str (bs wClear)]) (AV.raw (Value.pointer none)) ([some { es := (5 : Nat), n := (1 : Nat), mu := true, f := Rep.lst [[Zi 7, Zi 0, Zi 0, Zi 0, AV.bool true]] }]) (.tt (.req ((0 : Int) ≤ (0 : Int) ∧ (0 : Int) < (↑(List.length ws) : Int)) (.br (!ByteArray.toList (bs (List.getD ws (Int.toNat (0 : Int)) [])) == ByteArray.toList (bs wClear)) (.out (AV.tup [AV.agg [Zi 0, Zi 0, Zi 0, Zi 0, AV.bool false], AV.bool false]) [] (AV.tup [AV.agg (Cmd.cells (Option.getD (matchF { kind := (7 : Int), ws := [wClear], whom := (0 : Int) } ws) Cmd.zero)), AV.bool (Option.isSome (matchF { kind := (7 : Int), ws := [wClear], whom := (0 : Int) } ws))]) []) (.ff (.out (AV.tup [AV.agg [Zi 7, Zi 0, Zi 0, Zi 0, AV.bool true], AV.bool true]) [] (AV.tup [AV.agg (Cmd.cells (Option.getD (matchF { kind := (7 : Int), ws := [wClear], whom := (0 : Int) } ws) Cmd.zero)), AV.bool (Option.isSome (matchF { kind := (7 : Int), ws := [wClear], whom := (0 : Int) } ws))]) []))))))))))
    (by kernel_rfl) ?_
  refine k_gc (c0) ?_
  refine k_br (fun h1 => ?_) (fun h1 => ?_)
  · have g1 := cnd_bne_t h1
    exact k_out (Ent.of_eq (by first | exact mO (nLen 1 rfl (by assumption)) | exact mO (nWord 0 wClear rfl (by decide) (by assumption)) | (have h := s5 (k := 7) (b := true) (W := wClear) (by decide) (by assumption) (by assumption); rw [show matchF ⟨7, [wClear], 0⟩ ws = _ from h]; rfl)))
  · have g1 := cnd_bne_f h1
    refine k_tt ?_
    refine k_req ((by first | omega | decide | (rw [g1]; decide))) ?_
    refine k_gc (f0 ((7 : Int)) ((0 : Int)) ((0 : Int)) ((0 : Int)) (true)) ?_
    refine k_tt ?_
    refine k_req ((by first | omega | decide | (rw [g1]; decide))) ?_
    refine k_br (fun h8 => ?_) (fun h8 => ?_)
    · have g8 := (cnd_not_t cnd_id_f) h8
      exact k_out (Ent.of_eq (by first | exact mO (nLen 1 rfl (by assumption)) | exact mO (nWord 0 wClear rfl (by decide) (by assumption)) | (have h := s5 (k := 7) (b := true) (W := wClear) (by decide) (by assumption) (by assumption); rw [show matchF ⟨7, [wClear], 0⟩ ws = _ from h]; rfl)))
    · have g8 := (cnd_not_f cnd_id_t) h8
      refine k_ff ?_
      exact k_out (Ent.of_eq (by first | exact mO (nLen 1 rfl (by assumption)) | exact mO (nWord 0 wClear rfl (by decide) (by assumption)) | (have h := s5 (k := 7) (b := true) (W := wClear) (by decide) (by assumption) (by assumption); rw [show matchF ⟨7, [wClear], 0⟩ ws = _ from h]; rfl)))

theorem match_8 (m : GP) (ws : List Str) (hw : ∀ w ∈ ws, w.length ≤ 281474976710656) (hn : ws.length < 9223372036854775808) : Pure Tryz.prog (gl0 m) 85 [.agg [.int .i64 8, .str (bs wf8), .int .i64 0], wlA ws] (.tup [.agg (Cmd.cells ((matchF ⟨8, [wTick, wAmount], 0⟩ ws).getD .zero)), .bool (matchF ⟨8, [wTick, wAmount], 0⟩ ws).isSome]) := by
  have c0 := fields_8 m
  have f0 := fun c0 c1 c2 c3 c4 => field_0 m c0 c1 c2 c3 c4 wTick (fd _ (by decide)).1 (fd _ (by decide)).2.1 (fd _ (by decide)).2.2
  have n1 := number_c m (ws.getD 1 []) (getD_len hw)
  refine pure_sk (own := (owM 5)) Tryz.func85 (by kernel_rfl) mixed (by kernel_rfl)
    (.gc 86 ([]) ([AV.str (bs wf8)]) (AV.osl (0 : Nat) (1 : Nat) (0 : Nat) (2 : Nat)) ([some { es := (1 : Nat), n := (2 : Nat), mu := true, f := Rep.lst [[AV.str (bs wTick)], [AV.str (bs wAmount)]] }]) (.br ((↑(List.length ws) : Int) != (↑(2) : Int)) (.out (AV.tup [AV.agg [Zi 0, Zi 0, Zi 0, Zi 0, AV.bool false], AV.bool false]) [] (AV.tup [AV.agg (Cmd.cells (Option.getD (matchF { kind := (8 : Int), ws := [wTick, wAmount], whom := (0 : Int) } ws) Cmd.zero)), AV.bool (Option.isSome (matchF { kind := (8 : Int), ws := [wTick, wAmount], whom := (0 : Int) } ws))]) []) (.tt (.req ((0 : Int) ≤ (0 : Int) ∧ (0 : Int) < (↑(2) : Int)) (.gc 131 ([{ es := 5, n := 1, mu := true, f := Rep.lst [[Zi 8, Zi 0, Zi 0, Zi 0, AV.bool true]] }]) ([AV.own (0) (5) (0) (0) (5), AV.str (bs wTick)]) (AV.raw (Value.pointer none)) ([some { es := (5 : Nat), n := (1 : Nat), mu := true, f := Rep.lst [[Zi 8, Zi 0, Zi 0, Zi 0, AV.bool true]] }]) (.tt (.req ((0 : Int) ≤ (0 : Int) ∧ (0 : Int) < (↑(List.length ws) : Int)) (.br (!ByteArray.toList (bs (List.getD ws (Int.toNat (0 : Int)) [])) == ByteArray.toList (bs wTick)) (.out (AV.tup [AV.agg [Zi 0, Zi 0, Zi 0, Zi 0, AV.bool false], AV.bool false]) [] (AV.tup [AV.agg (Cmd.cells (Option.getD (matchF { kind := (8 : Int), ws := [wTick, wAmount], whom := (0 : Int) } ws) Cmd.zero)), AV.bool (Option.isSome (matchF { kind := (8 : Int), ws := [wTick, wAmount], whom := (0 : Int) } ws))]) []) (.tt (.req ((0 : Int) ≤ IntKind.wrap IntKind.i64 ((0 : Int) + (1 : Int)) ∧ IntKind.wrap IntKind.i64 ((0 : Int) + (1 : Int)) < (↑(2) : Int)) (.gc 131 ([{ es := 5, n := 1, mu := true, f := Rep.lst [[Zi 8, Zi 0, Zi 0, Zi 0, AV.bool true]] }]) ([AV.own (0) (5) (0) (0) (5), AV.str (bs wAmount)]) (AV.own (0 : Nat) (5 : Nat) (0 : Nat) (3 : Nat) (1 : Nat)) ([some { es := (5 : Nat), n := (1 : Nat), mu := true, f := Rep.lst [[Zi 8, Zi 0, Zi 0, Zi 0, AV.bool true]] }]) (.ff (.req ((0 : Int) ≤ IntKind.wrap IntKind.i64 ((0 : Int) + (1 : Int)) ∧ IntKind.wrap IntKind.i64 ((0 : Int) + (1 : Int)) < (↑(List.length ws) : Int)) (.sc (true) 132 ([AV.str (bs (List.getD ws (1) []))]) (AV.tup [Zi (numVal (List.getD ws (1 : Nat) [])), AV.bool (Option.isSome (numC (List.getD ws (1 : Nat) [])))]) (.br (!Option.isSome (numC (List.getD ws (1) []))) (.out (AV.tup [AV.agg [Zi 0, Zi 0, Zi 0, Zi 0, AV.bool false], AV.bool false]) [] (AV.tup [AV.agg (Cmd.cells (Option.getD (matchF { kind := (8 : Int), ws := [wTick, wAmount], whom := (0 : Int) } ws) Cmd.zero)), AV.bool (Option.isSome (matchF { kind := (8 : Int), ws := [wTick, wAmount], whom := (0 : Int) } ws))]) []) (.ff (.out (AV.tup [AV.agg [Zi 8, Zi 0, Zi 0, Zi (numVal (List.getD ws (1) [])), AV.bool true], AV.bool true]) [] (AV.tup [AV.agg (Cmd.cells (Option.getD (matchF { kind := (8 : Int), ws := [wTick, wAmount], whom := (0 : Int) } ws) Cmd.zero)), AV.bool (Option.isSome (matchF { kind := (8 : Int), ws := [wTick, wAmount], whom := (0 : Int) } ws))]) [])))))))))))))))))
    (by kernel_rfl) ?_
  refine k_gc (c0) ?_
  refine k_br (fun h1 => ?_) (fun h1 => ?_)
  · have g1 := cnd_bne_t h1
    exact k_out (Ent.of_eq (by first | exact mO (nLen 2 rfl (by assumption)) | exact mO (nWord 0 wTick rfl (by decide) (by assumption)) | exact mO (nNum 1 wAmount rfl (by decide) (by assumption)) | (have h := s6 (k := 8) (b := true) (W := wTick) (by decide) (by assumption) (by assumption) (by assumption); rw [show matchF ⟨8, [wTick, wAmount], 0⟩ ws = _ from h]; rfl)))
  · have g1 := cnd_bne_f h1
    refine k_tt ?_
    refine k_req ((by first | omega | decide | (rw [g1]; decide))) ?_
    refine k_gc (f0 ((8 : Int)) ((0 : Int)) ((0 : Int)) ((0 : Int)) (true)) ?_
    refine k_tt ?_
    refine k_req ((by first | omega | decide | (rw [g1]; decide))) ?_
    refine k_br (fun h8 => ?_) (fun h8 => ?_)
    · have g8 := (cnd_not_t cnd_id_f) h8
      exact k_out (Ent.of_eq (by first | exact mO (nLen 2 rfl (by assumption)) | exact mO (nWord 0 wTick rfl (by decide) (by assumption)) | exact mO (nNum 1 wAmount rfl (by decide) (by assumption)) | (have h := s6 (k := 8) (b := true) (W := wTick) (by decide) (by assumption) (by assumption) (by assumption); rw [show matchF ⟨8, [wTick, wAmount], 0⟩ ws = _ from h]; rfl)))
    · have g8 := (cnd_not_f cnd_id_t) h8
      refine k_tt ?_
      refine k_req ((by first | omega | decide | (rw [g1]; decide))) ?_
      refine k_gc ((field_3 m) ((8 : Int)) ((0 : Int)) ((0 : Int)) ((0 : Int)) (true)) ?_
      refine k_ff ?_
      refine k_req ((by first | omega | decide | (rw [g1]; decide))) ?_
      refine k_sc (n1) ?_
      refine k_br (fun h16 => ?_) (fun h16 => ?_)
      · have g16 := (cnd_not_t cnd_id_f) h16
        exact k_out (Ent.of_eq (by first | exact mO (nLen 2 rfl (by assumption)) | exact mO (nWord 0 wTick rfl (by decide) (by assumption)) | exact mO (nNum 1 wAmount rfl (by decide) (by assumption)) | (have h := s6 (k := 8) (b := true) (W := wTick) (by decide) (by assumption) (by assumption) (by assumption); rw [show matchF ⟨8, [wTick, wAmount], 0⟩ ws = _ from h]; rfl)))
      · have g16 := (cnd_not_f cnd_id_t) h16
        refine k_ff ?_
        exact k_out (Ent.of_eq (by first | exact mO (nLen 2 rfl (by assumption)) | exact mO (nWord 0 wTick rfl (by decide) (by assumption)) | exact mO (nNum 1 wAmount rfl (by decide) (by assumption)) | (have h := s6 (k := 8) (b := true) (W := wTick) (by decide) (by assumption) (by assumption) (by assumption); rw [show matchF ⟨8, [wTick, wAmount], 0⟩ ws = _ from h]; rfl)))


theorem line_0 (m : GP) (a : Cmd) (ha : CmdR a) : Pure Tryz.prog (gl0 m) 84 [.agg [.int .i64 1, .str (bs wf0), .int .i64 0], .agg a.cells] (wlA (lineF ⟨1, [wWithdraw, wWho, wAmount], 0⟩ a)) := by
  have c0 := fields_0 m
  have f0 := fun c0 c1 c2 c3 c4 => field_0 m c0 c1 c2 c3 c4 wWithdraw (fd _ (by decide)).1 (fd _ (by decide)).2.1 (fd _ (by decide)).2.2
  have n1 := itoa_c m a.who ha.who
  have n3 := itoa_c m a.amount ha.amount
  refine pure_sk (own := (owM 5)) Tryz.func84 (by kernel_rfl) mixed (by kernel_rfl)
    (.gc 86 ([]) ([AV.str (bs wf0)]) (AV.osl (0 : Nat) (1 : Nat) (0 : Nat) (3 : Nat)) ([some { es := (1 : Nat), n := (3 : Nat), mu := true, f := Rep.lst [[AV.str (bs wWithdraw)], [AV.str (bs wWho)], [AV.str (bs wAmount)]] }]) (.tt (.req ((0 : Int) ≤ (0 : Int) ∧ (0 : Int) < (↑(3) : Int)) (.gc 131 ([{ es := 5, n := 1, mu := true, f := Rep.lst [Cmd.cells a] }]) ([AV.own (0) (5) (0) (0) (5), AV.str (bs wWithdraw)]) (AV.raw (Value.pointer none)) ([some { es := (5 : Nat), n := (1 : Nat), mu := true, f := Rep.lst [[Zi (Cmd.kind a), Zi (Cmd.who a), Zi (Cmd.whom a), Zi (Cmd.amount a), AV.bool (Cmd.honest a)]] }]) (.ff (.tt (.req ((0 : Int) ≤ IntKind.wrap IntKind.i64 ((0 : Int) + (1 : Int)) ∧ IntKind.wrap IntKind.i64 ((0 : Int) + (1 : Int)) < (↑(3) : Int)) (.gc 131 ([{ es := 5, n := 1, mu := true, f := Rep.lst [Cmd.cells a] }]) ([AV.own (0) (5) (0) (0) (5), AV.str (bs wWho)]) (AV.own (0 : Nat) (5 : Nat) (0 : Nat) (1 : Nat) (1 : Nat)) ([some { es := (5 : Nat), n := (1 : Nat), mu := true, f := Rep.lst [[Zi (Cmd.kind a), Zi (Cmd.who a), Zi (Cmd.whom a), Zi (Cmd.amount a), AV.bool (Cmd.honest a)]] }]) (.tt (.sc (true) 35 ([Zi a.2]) (AV.str (bs (itoa (Cmd.who a)))) (.req ((0 : Int) ≤ IntKind.wrap IntKind.i64 ((0 : Int) + (1 : Int)) ∧ IntKind.wrap IntKind.i64 ((0 : Int) + (1 : Int)) < (↑(3) : Int)) (.tt (.req ((0 : Int) ≤ IntKind.wrap IntKind.i64 (IntKind.wrap IntKind.i64 ((0 : Int) + (1 : Int)) + (1 : Int)) ∧ IntKind.wrap IntKind.i64 (IntKind.wrap IntKind.i64 ((0 : Int) + (1 : Int)) + (1 : Int)) < (↑(3) : Int)) (.gc 131 ([{ es := 5, n := 1, mu := true, f := Rep.lst [Cmd.cells a] }]) ([AV.own (0) (5) (0) (0) (5), AV.str (bs wAmount)]) (AV.own (0 : Nat) (5 : Nat) (0 : Nat) (3 : Nat) (1 : Nat)) ([some { es := (5 : Nat), n := (1 : Nat), mu := true, f := Rep.lst [[Zi (Cmd.kind a), Zi (Cmd.who a), Zi (Cmd.whom a), Zi (Cmd.amount a), AV.bool (Cmd.honest a)]] }]) (.tt (.sc (true) 35 ([Zi a.4]) (AV.str (bs (itoa (Cmd.amount a)))) (.req ((0 : Int) ≤ IntKind.wrap IntKind.i64 (IntKind.wrap IntKind.i64 ((0 : Int) + (1 : Int)) + (1 : Int)) ∧ IntKind.wrap IntKind.i64 (IntKind.wrap IntKind.i64 ((0 : Int) + (1 : Int)) + (1 : Int)) < (↑(3) : Int)) (.ff (.out (AV.isl (1) (3) fun (r k : Nat) => atL (List.getD [[AV.str (bs wWithdraw)], [AV.str (bs (itoa a.2))], [AV.str (bs (itoa a.4))]] (r + 0) []) k) [] (wlA (lineF { kind := (1 : Int), ws := [wWithdraw, wWho, wAmount], whom := (0 : Int) } a)) [])))))))))))))))))))
    (by kernel_rfl) ?_
  refine k_gc (c0) ?_
  refine k_tt ?_
  refine k_req ((by first | omega | decide)) ?_
  refine k_gc (f0 (Cmd.kind a) (Cmd.who a) (Cmd.whom a) (Cmd.amount a) (Cmd.honest a)) ?_
  refine k_ff ?_
  refine k_tt ?_
  refine k_req ((by first | omega | decide)) ?_
  refine k_gc ((field_1 m) (Cmd.kind a) (Cmd.who a) (Cmd.whom a) (Cmd.amount a) (Cmd.honest a)) ?_
  refine k_tt ?_
  refine k_sc (n1) ?_
  refine k_req ((by first | omega | decide)) ?_
  refine k_tt ?_
  refine k_req ((by first | omega | decide)) ?_
  refine k_gc ((field_3 m) (Cmd.kind a) (Cmd.who a) (Cmd.whom a) (Cmd.amount a) (Cmd.honest a)) ?_
  refine k_tt ?_
  refine k_sc (n3) ?_
  refine k_req ((by first | omega | decide)) ?_
  refine k_ff ?_
  exact k_out (Ent.isl (fun i j hi hj => by have e := Nat.lt_one_iff.1 hj; subst e; exact (match i, hi with | 0, _ | 1, _ | 2, _ => rfl)))

theorem line_1 (m : GP) (a : Cmd) (ha : CmdR a) : Pure Tryz.prog (gl0 m) 84 [.agg [.int .i64 2, .str (bs wf1), .int .i64 0], .agg a.cells] (wlA (lineF ⟨2, [wPay, wWho, wWhom, wAmount], 0⟩ a)) := by
  have c0 := fields_1 m
  have f0 := fun c0 c1 c2 c3 c4 => field_0 m c0 c1 c2 c3 c4 wPay (fd _ (by decide)).1 (fd _ (by decide)).2.1 (fd _ (by decide)).2.2
  have n1 := itoa_c m a.who ha.who
  have n2 := itoa_c m a.whom ha.whom
  have n3 := itoa_c m a.amount ha.amount
  refine pure_sk (own := (owM 5)) Tryz.func84 (by kernel_rfl) mixed (by kernel_rfl)
    (.gc 86 ([]) ([AV.str (bs wf1)]) (AV.osl (0 : Nat) (1 : Nat) (0 : Nat) (4 : Nat)) ([some { es := (1 : Nat), n := (4 : Nat), mu := true, f := Rep.lst [[AV.str (bs wPay)], [AV.str (bs wWho)], [AV.str (bs wWhom)], [AV.str (bs wAmount)]] }]) (.tt (.req ((0 : Int) ≤ (0 : Int) ∧ (0 : Int) < (↑(4) : Int)) (.gc 131 ([{ es := 5, n := 1, mu := true, f := Rep.lst [Cmd.cells a] }]) ([AV.own (0) (5) (0) (0) (5), AV.str (bs wPay)]) (AV.raw (Value.pointer none)) ([some { es := (5 : Nat), n := (1 : Nat), mu := true, f := Rep.lst [[Zi (Cmd.kind a), Zi (Cmd.who a), Zi (Cmd.whom a), Zi (Cmd.amount a), AV.bool (Cmd.honest a)]] }]) (.ff (.tt (.req ((0 : Int) ≤ IntKind.wrap IntKind.i64 ((0 : Int) + (1 : Int)) ∧ IntKind.wrap IntKind.i64 ((0 : Int) + (1 : Int)) < (↑(4) : Int)) (.gc 131 ([{ es := 5, n := 1, mu := true, f := Rep.lst [Cmd.cells a] }]) ([AV.own (0) (5) (0) (0) (5), AV.str (bs wWho)]) (AV.own (0 : Nat) (5 : Nat) (0 : Nat) (1 : Nat) (1 : Nat)) ([some { es := (5 : Nat), n := (1 : Nat), mu := true, f := Rep.lst [[Zi (Cmd.kind a), Zi (Cmd.who a), Zi (Cmd.whom a), Zi (Cmd.amount a), AV.bool (Cmd.honest a)]] }]) (.tt (.sc (true) 35 ([Zi a.2]) (AV.str (bs (itoa (Cmd.who a)))) (.req ((0 : Int) ≤ IntKind.wrap IntKind.i64 ((0 : Int) + (1 : Int)) ∧ IntKind.wrap IntKind.i64 ((0 : Int) + (1 : Int)) < (↑(4) : Int)) (.tt (.req ((0 : Int) ≤ IntKind.wrap IntKind.i64 (IntKind.wrap IntKind.i64 ((0 : Int) + (1 : Int)) + (1 : Int)) ∧ IntKind.wrap IntKind.i64 (IntKind.wrap IntKind.i64 ((0 : Int) + (1 : Int)) + (1 : Int)) < (↑(4) : Int)) (.gc 131 ([{ es := 5, n := 1, mu := true, f := Rep.lst [Cmd.cells a] }]) ([AV.own (0) (5) (0) (0) (5), AV.str (bs wWhom)]) (AV.own (0 : Nat) (5 : Nat) (0 : Nat) (2 : Nat) (1 : Nat)) ([some { es := (5 : Nat), n := (1 : Nat), mu := true, f := Rep.lst [[Zi (Cmd.kind a), Zi (Cmd.who a), Zi (Cmd.whom a), Zi (Cmd.amount a), AV.bool (Cmd.honest a)]] }]) (.tt (.sc (true) 35 ([Zi a.3]) (AV.str (bs (itoa (Cmd.whom a)))) (.req ((0 : Int) ≤ IntKind.wrap IntKind.i64 (IntKind.wrap IntKind.i64 ((0 : Int) + (1 : Int)) + (1 : Int)) ∧ IntKind.wrap IntKind.i64 (IntKind.wrap IntKind.i64 ((0 : Int) + (1 : Int)) + (1 : Int)) < (↑(4) : Int)) (.tt (.req ((0 : Int) ≤ IntKind.wrap IntKind.i64 (IntKind.wrap IntKind.i64 (IntKind.wrap IntKind.i64 ((0 : Int) + (1 : Int)) + (1 : Int)) + (1 : Int)) ∧ IntKind.wrap IntKind.i64 (IntKind.wrap IntKind.i64 (IntKind.wrap IntKind.i64 ((0 : Int) + (1 : Int)) + (1 : Int)) + (1 : Int)) < (↑(4) : Int)) (.gc 131 ([{ es := 5, n := 1, mu := true, f := Rep.lst [Cmd.cells a] }]) ([AV.own (0) (5) (0) (0) (5), AV.str (bs wAmount)]) (AV.own (0 : Nat) (5 : Nat) (0 : Nat) (3 : Nat) (1 : Nat)) ([some { es := (5 : Nat), n := (1 : Nat), mu := true, f := Rep.lst [[Zi (Cmd.kind a), Zi (Cmd.who a), Zi (Cmd.whom a), Zi (Cmd.amount a), AV.bool (Cmd.honest a)]] }]) (.tt (.sc (true) 35 ([Zi a.4]) (AV.str (bs (itoa (Cmd.amount a)))) (.req ((0 : Int) ≤ IntKind.wrap IntKind.i64 (IntKind.wrap IntKind.i64 (IntKind.wrap IntKind.i64 ((0 : Int) + (1 : Int)) + (1 : Int)) + (1 : Int)) ∧ IntKind.wrap IntKind.i64 (IntKind.wrap IntKind.i64 (IntKind.wrap IntKind.i64 ((0 : Int) + (1 : Int)) + (1 : Int)) + (1 : Int)) < (↑(4) : Int)) (.ff (.out (AV.isl (1) (4) fun (r k : Nat) => atL (List.getD [[AV.str (bs wPay)], [AV.str (bs (itoa a.2))], [AV.str (bs (itoa a.3))], [AV.str (bs (itoa a.4))]] (r + 0) []) k) [] (wlA (lineF { kind := (2 : Int), ws := [wPay, wWho, wWhom, wAmount], whom := (0 : Int) } a)) [])))))))))))))))))))))))))
    (by kernel_rfl) ?_
  refine k_gc (c0) ?_
  refine k_tt ?_
  refine k_req ((by first | omega | decide)) ?_
  refine k_gc (f0 (Cmd.kind a) (Cmd.who a) (Cmd.whom a) (Cmd.amount a) (Cmd.honest a)) ?_
  refine k_ff ?_
  refine k_tt ?_
  refine k_req ((by first | omega | decide)) ?_
  refine k_gc ((field_1 m) (Cmd.kind a) (Cmd.who a) (Cmd.whom a) (Cmd.amount a) (Cmd.honest a)) ?_
  refine k_tt ?_
  refine k_sc (n1) ?_
  refine k_req ((by first | omega | decide)) ?_
  refine k_tt ?_
  refine k_req ((by first | omega | decide)) ?_
  refine k_gc ((field_2 m) (Cmd.kind a) (Cmd.who a) (Cmd.whom a) (Cmd.amount a) (Cmd.honest a)) ?_
  refine k_tt ?_
  refine k_sc (n2) ?_
  refine k_req ((by first | omega | decide)) ?_
  refine k_tt ?_
  refine k_req ((by first | omega | decide)) ?_
  refine k_gc ((field_3 m) (Cmd.kind a) (Cmd.who a) (Cmd.whom a) (Cmd.amount a) (Cmd.honest a)) ?_
  refine k_tt ?_
  refine k_sc (n3) ?_
  refine k_req ((by first | omega | decide)) ?_
  refine k_ff ?_
  exact k_out (Ent.isl (fun i j hi hj => by have e := Nat.lt_one_iff.1 hj; subst e; exact (match i, hi with | 0, _ | 1, _ | 2, _ | 3, _ => rfl)))

theorem line_2 (m : GP) (a : Cmd) (ha : CmdR a) : Pure Tryz.prog (gl0 m) 84 [.agg [.int .i64 3, .str (bs wf2), .int .i64 0], .agg a.cells] (wlA (lineF ⟨3, [wTransfer, wWho, wWhom, wAmount], 0⟩ a)) := by
  have c0 := fields_2 m
  have f0 := fun c0 c1 c2 c3 c4 => field_0 m c0 c1 c2 c3 c4 wTransfer (fd _ (by decide)).1 (fd _ (by decide)).2.1 (fd _ (by decide)).2.2
  have n1 := itoa_c m a.who ha.who
  have n2 := itoa_c m a.whom ha.whom
  have n3 := itoa_c m a.amount ha.amount
  refine pure_sk (own := (owM 5)) Tryz.func84 (by kernel_rfl) mixed (by kernel_rfl)
    (.gc 86 ([]) ([AV.str (bs wf2)]) (AV.osl (0 : Nat) (1 : Nat) (0 : Nat) (4 : Nat)) ([some { es := (1 : Nat), n := (4 : Nat), mu := true, f := Rep.lst [[AV.str (bs wTransfer)], [AV.str (bs wWho)], [AV.str (bs wWhom)], [AV.str (bs wAmount)]] }]) (.tt (.req ((0 : Int) ≤ (0 : Int) ∧ (0 : Int) < (↑(4) : Int)) (.gc 131 ([{ es := 5, n := 1, mu := true, f := Rep.lst [Cmd.cells a] }]) ([AV.own (0) (5) (0) (0) (5), AV.str (bs wTransfer)]) (AV.raw (Value.pointer none)) ([some { es := (5 : Nat), n := (1 : Nat), mu := true, f := Rep.lst [[Zi (Cmd.kind a), Zi (Cmd.who a), Zi (Cmd.whom a), Zi (Cmd.amount a), AV.bool (Cmd.honest a)]] }]) (.ff (.tt (.req ((0 : Int) ≤ IntKind.wrap IntKind.i64 ((0 : Int) + (1 : Int)) ∧ IntKind.wrap IntKind.i64 ((0 : Int) + (1 : Int)) < (↑(4) : Int)) (.gc 131 ([{ es := 5, n := 1, mu := true, f := Rep.lst [Cmd.cells a] }]) ([AV.own (0) (5) (0) (0) (5), AV.str (bs wWho)]) (AV.own (0 : Nat) (5 : Nat) (0 : Nat) (1 : Nat) (1 : Nat)) ([some { es := (5 : Nat), n := (1 : Nat), mu := true, f := Rep.lst [[Zi (Cmd.kind a), Zi (Cmd.who a), Zi (Cmd.whom a), Zi (Cmd.amount a), AV.bool (Cmd.honest a)]] }]) (.tt (.sc (true) 35 ([Zi a.2]) (AV.str (bs (itoa (Cmd.who a)))) (.req ((0 : Int) ≤ IntKind.wrap IntKind.i64 ((0 : Int) + (1 : Int)) ∧ IntKind.wrap IntKind.i64 ((0 : Int) + (1 : Int)) < (↑(4) : Int)) (.tt (.req ((0 : Int) ≤ IntKind.wrap IntKind.i64 (IntKind.wrap IntKind.i64 ((0 : Int) + (1 : Int)) + (1 : Int)) ∧ IntKind.wrap IntKind.i64 (IntKind.wrap IntKind.i64 ((0 : Int) + (1 : Int)) + (1 : Int)) < (↑(4) : Int)) (.gc 131 ([{ es := 5, n := 1, mu := true, f := Rep.lst [Cmd.cells a] }]) ([AV.own (0) (5) (0) (0) (5), AV.str (bs wWhom)]) (AV.own (0 : Nat) (5 : Nat) (0 : Nat) (2 : Nat) (1 : Nat)) ([some { es := (5 : Nat), n := (1 : Nat), mu := true, f := Rep.lst [[Zi (Cmd.kind a), Zi (Cmd.who a), Zi (Cmd.whom a), Zi (Cmd.amount a), AV.bool (Cmd.honest a)]] }]) (.tt (.sc (true) 35 ([Zi a.3]) (AV.str (bs (itoa (Cmd.whom a)))) (.req ((0 : Int) ≤ IntKind.wrap IntKind.i64 (IntKind.wrap IntKind.i64 ((0 : Int) + (1 : Int)) + (1 : Int)) ∧ IntKind.wrap IntKind.i64 (IntKind.wrap IntKind.i64 ((0 : Int) + (1 : Int)) + (1 : Int)) < (↑(4) : Int)) (.tt (.req ((0 : Int) ≤ IntKind.wrap IntKind.i64 (IntKind.wrap IntKind.i64 (IntKind.wrap IntKind.i64 ((0 : Int) + (1 : Int)) + (1 : Int)) + (1 : Int)) ∧ IntKind.wrap IntKind.i64 (IntKind.wrap IntKind.i64 (IntKind.wrap IntKind.i64 ((0 : Int) + (1 : Int)) + (1 : Int)) + (1 : Int)) < (↑(4) : Int)) (.gc 131 ([{ es := 5, n := 1, mu := true, f := Rep.lst [Cmd.cells a] }]) ([AV.own (0) (5) (0) (0) (5), AV.str (bs wAmount)]) (AV.own (0 : Nat) (5 : Nat) (0 : Nat) (3 : Nat) (1 : Nat)) ([some { es := (5 : Nat), n := (1 : Nat), mu := true, f := Rep.lst [[Zi (Cmd.kind a), Zi (Cmd.who a), Zi (Cmd.whom a), Zi (Cmd.amount a), AV.bool (Cmd.honest a)]] }]) (.tt (.sc (true) 35 ([Zi a.4]) (AV.str (bs (itoa (Cmd.amount a)))) (.req ((0 : Int) ≤ IntKind.wrap IntKind.i64 (IntKind.wrap IntKind.i64 (IntKind.wrap IntKind.i64 ((0 : Int) + (1 : Int)) + (1 : Int)) + (1 : Int)) ∧ IntKind.wrap IntKind.i64 (IntKind.wrap IntKind.i64 (IntKind.wrap IntKind.i64 ((0 : Int) + (1 : Int)) + (1 : Int)) + (1 : Int)) < (↑(4) : Int)) (.ff (.out (AV.isl (1) (4) fun (r k : Nat) => atL (List.getD [[AV.str (bs wTransfer)], [AV.str (bs (itoa a.2))], [AV.str (bs (itoa a.3))], [AV.str (bs (itoa a.4))]] (r + 0) []) k) [] (wlA (lineF { kind := (3 : Int), ws := [wTransfer, wWho, wWhom, wAmount], whom := (0 : Int) } a)) [])))))))))))))))))))))))))
    (by kernel_rfl) ?_
  refine k_gc (c0) ?_
  refine k_tt ?_
  refine k_req ((by first | omega | decide)) ?_
  refine k_gc (f0 (Cmd.kind a) (Cmd.who a) (Cmd.whom a) (Cmd.amount a) (Cmd.honest a)) ?_
  refine k_ff ?_
  refine k_tt ?_
  refine k_req ((by first | omega | decide)) ?_
  refine k_gc ((field_1 m) (Cmd.kind a) (Cmd.who a) (Cmd.whom a) (Cmd.amount a) (Cmd.honest a)) ?_
  refine k_tt ?_
  refine k_sc (n1) ?_
  refine k_req ((by first | omega | decide)) ?_
  refine k_tt ?_
  refine k_req ((by first | omega | decide)) ?_
  refine k_gc ((field_2 m) (Cmd.kind a) (Cmd.who a) (Cmd.whom a) (Cmd.amount a) (Cmd.honest a)) ?_
  refine k_tt ?_
  refine k_sc (n2) ?_
  refine k_req ((by first | omega | decide)) ?_
  refine k_tt ?_
  refine k_req ((by first | omega | decide)) ?_
  refine k_gc ((field_3 m) (Cmd.kind a) (Cmd.who a) (Cmd.whom a) (Cmd.amount a) (Cmd.honest a)) ?_
  refine k_tt ?_
  refine k_sc (n3) ?_
  refine k_req ((by first | omega | decide)) ?_
  refine k_ff ?_
  exact k_out (Ent.isl (fun i j hi hj => by have e := Nat.lt_one_iff.1 hj; subst e; exact (match i, hi with | 0, _ | 1, _ | 2, _ | 3, _ => rfl)))

theorem line_3 (m : GP) (a : Cmd) (ha : CmdR a) : Pure Tryz.prog (gl0 m) 84 [.agg [.int .i64 4, .str (bs wf3), .int .i64 0], .agg a.cells] (wlA (lineF ⟨4, [wDeposit, wMerchant, wWho], 0⟩ a)) := by
  have c0 := fields_3 m
  have f0 := fun c0 c1 c2 c3 c4 => field_0 m c0 c1 c2 c3 c4 wDeposit (fd _ (by decide)).1 (fd _ (by decide)).2.1 (fd _ (by decide)).2.2
  have f1 := fun c0 c1 c2 c3 c4 => field_0 m c0 c1 c2 c3 c4 wMerchant (fd _ (by decide)).1 (fd _ (by decide)).2.1 (fd _ (by decide)).2.2
  have n1 := itoa_c m a.who ha.who
  refine pure_sk (own := (owM 5)) Tryz.func84 (by kernel_rfl) mixed (by kernel_rfl)
    (.gc 86 ([]) ([AV.str (bs wf3)]) (AV.osl (0 : Nat) (1 : Nat) (0 : Nat) (3 : Nat)) ([some { es := (1 : Nat), n := (3 : Nat), mu := true, f := Rep.lst [[AV.str (bs wDeposit)], [AV.str (bs wMerchant)], [AV.str (bs wWho)]] }]) (.tt (.req ((0 : Int) ≤ (0 : Int) ∧ (0 : Int) < (↑(3) : Int)) (.gc 131 ([{ es := 5, n := 1, mu := true, f := Rep.lst [Cmd.cells a] }]) ([AV.own (0) (5) (0) (0) (5), AV.str (bs wDeposit)]) (AV.raw (Value.pointer none)) ([some { es := (5 : Nat), n := (1 : Nat), mu := true, f := Rep.lst [[Zi (Cmd.kind a), Zi (Cmd.who a), Zi (Cmd.whom a), Zi (Cmd.amount a), AV.bool (Cmd.honest a)]] }]) (.ff (.tt (.req ((0 : Int) ≤ IntKind.wrap IntKind.i64 ((0 : Int) + (1 : Int)) ∧ IntKind.wrap IntKind.i64 ((0 : Int) + (1 : Int)) < (↑(3) : Int)) (.gc 131 ([{ es := 5, n := 1, mu := true, f := Rep.lst [Cmd.cells a] }]) ([AV.own (0) (5) (0) (0) (5), AV.str (bs wMerchant)]) (AV.raw (Value.pointer none)) ([some { es := (5 : Nat), n := (1 : Nat), mu := true, f := Rep.lst [[Zi (Cmd.kind a), Zi (Cmd.who a), Zi (Cmd.whom a), Zi (Cmd.amount a), AV.bool (Cmd.honest a)]] }]) (.ff (.tt (.req ((0 : Int) ≤ IntKind.wrap IntKind.i64 (IntKind.wrap IntKind.i64 ((0 : Int) + (1 : Int)) + (1 : Int)) ∧ IntKind.wrap IntKind.i64 (IntKind.wrap IntKind.i64 ((0 : Int) + (1 : Int)) + (1 : Int)) < (↑(3) : Int)) (.gc 131 ([{ es := 5, n := 1, mu := true, f := Rep.lst [Cmd.cells a] }]) ([AV.own (0) (5) (0) (0) (5), AV.str (bs wWho)]) (AV.own (0 : Nat) (5 : Nat) (0 : Nat) (1 : Nat) (1 : Nat)) ([some { es := (5 : Nat), n := (1 : Nat), mu := true, f := Rep.lst [[Zi (Cmd.kind a), Zi (Cmd.who a), Zi (Cmd.whom a), Zi (Cmd.amount a), AV.bool (Cmd.honest a)]] }]) (.tt (.sc (true) 35 ([Zi a.2]) (AV.str (bs (itoa (Cmd.who a)))) (.req ((0 : Int) ≤ IntKind.wrap IntKind.i64 (IntKind.wrap IntKind.i64 ((0 : Int) + (1 : Int)) + (1 : Int)) ∧ IntKind.wrap IntKind.i64 (IntKind.wrap IntKind.i64 ((0 : Int) + (1 : Int)) + (1 : Int)) < (↑(3) : Int)) (.ff (.out (AV.isl (1) (3) fun (r k : Nat) => atL (List.getD [[AV.str (bs wDeposit)], [AV.str (bs wMerchant)], [AV.str (bs (itoa a.2))]] (r + 0) []) k) [] (wlA (lineF { kind := (4 : Int), ws := [wDeposit, wMerchant, wWho], whom := (0 : Int) } a)) [])))))))))))))))))
    (by kernel_rfl) ?_
  refine k_gc (c0) ?_
  refine k_tt ?_
  refine k_req ((by first | omega | decide)) ?_
  refine k_gc (f0 (Cmd.kind a) (Cmd.who a) (Cmd.whom a) (Cmd.amount a) (Cmd.honest a)) ?_
  refine k_ff ?_
  refine k_tt ?_
  refine k_req ((by first | omega | decide)) ?_
  refine k_gc (f1 (Cmd.kind a) (Cmd.who a) (Cmd.whom a) (Cmd.amount a) (Cmd.honest a)) ?_
  refine k_ff ?_
  refine k_tt ?_
  refine k_req ((by first | omega | decide)) ?_
  refine k_gc ((field_1 m) (Cmd.kind a) (Cmd.who a) (Cmd.whom a) (Cmd.amount a) (Cmd.honest a)) ?_
  refine k_tt ?_
  refine k_sc (n1) ?_
  refine k_req ((by first | omega | decide)) ?_
  refine k_ff ?_
  exact k_out (Ent.isl (fun i j hi hj => by have e := Nat.lt_one_iff.1 hj; subst e; exact (match i, hi with | 0, _ | 1, _ | 2, _ => rfl)))

theorem line_4 (m : GP) (a : Cmd) (ha : CmdR a) : Pure Tryz.prog (gl0 m) 84 [.agg [.int .i64 4, .str (bs wf4), .int .i64 1], .agg a.cells] (wlA (lineF ⟨4, [wDeposit, wHolder, wWho], 1⟩ a)) := by
  have c0 := fields_4 m
  have f0 := fun c0 c1 c2 c3 c4 => field_0 m c0 c1 c2 c3 c4 wDeposit (fd _ (by decide)).1 (fd _ (by decide)).2.1 (fd _ (by decide)).2.2
  have f1 := fun c0 c1 c2 c3 c4 => field_0 m c0 c1 c2 c3 c4 wHolder (fd _ (by decide)).1 (fd _ (by decide)).2.1 (fd _ (by decide)).2.2
  have n1 := itoa_c m a.who ha.who
  refine pure_sk (own := (owM 5)) Tryz.func84 (by kernel_rfl) mixed (by kernel_rfl)
    (.gc 86 ([]) ([AV.str (bs wf4)]) (AV.osl (0 : Nat) (1 : Nat) (0 : Nat) (3 : Nat)) ([some { es := (1 : Nat), n := (3 : Nat), mu := true, f := Rep.lst [[AV.str (bs wDeposit)], [AV.str (bs wHolder)], [AV.str (bs wWho)]] }]) (.tt (.req ((0 : Int) ≤ (0 : Int) ∧ (0 : Int) < (↑(3) : Int)) (.gc 131 ([{ es := 5, n := 1, mu := true, f := Rep.lst [Cmd.cells a] }]) ([AV.own (0) (5) (0) (0) (5), AV.str (bs wDeposit)]) (AV.raw (Value.pointer none)) ([some { es := (5 : Nat), n := (1 : Nat), mu := true, f := Rep.lst [[Zi (Cmd.kind a), Zi (Cmd.who a), Zi (Cmd.whom a), Zi (Cmd.amount a), AV.bool (Cmd.honest a)]] }]) (.ff (.tt (.req ((0 : Int) ≤ IntKind.wrap IntKind.i64 ((0 : Int) + (1 : Int)) ∧ IntKind.wrap IntKind.i64 ((0 : Int) + (1 : Int)) < (↑(3) : Int)) (.gc 131 ([{ es := 5, n := 1, mu := true, f := Rep.lst [Cmd.cells a] }]) ([AV.own (0) (5) (0) (0) (5), AV.str (bs wHolder)]) (AV.raw (Value.pointer none)) ([some { es := (5 : Nat), n := (1 : Nat), mu := true, f := Rep.lst [[Zi (Cmd.kind a), Zi (Cmd.who a), Zi (Cmd.whom a), Zi (Cmd.amount a), AV.bool (Cmd.honest a)]] }]) (.ff (.tt (.req ((0 : Int) ≤ IntKind.wrap IntKind.i64 (IntKind.wrap IntKind.i64 ((0 : Int) + (1 : Int)) + (1 : Int)) ∧ IntKind.wrap IntKind.i64 (IntKind.wrap IntKind.i64 ((0 : Int) + (1 : Int)) + (1 : Int)) < (↑(3) : Int)) (.gc 131 ([{ es := 5, n := 1, mu := true, f := Rep.lst [Cmd.cells a] }]) ([AV.own (0) (5) (0) (0) (5), AV.str (bs wWho)]) (AV.own (0 : Nat) (5 : Nat) (0 : Nat) (1 : Nat) (1 : Nat)) ([some { es := (5 : Nat), n := (1 : Nat), mu := true, f := Rep.lst [[Zi (Cmd.kind a), Zi (Cmd.who a), Zi (Cmd.whom a), Zi (Cmd.amount a), AV.bool (Cmd.honest a)]] }]) (.tt (.sc (true) 35 ([Zi a.2]) (AV.str (bs (itoa (Cmd.who a)))) (.req ((0 : Int) ≤ IntKind.wrap IntKind.i64 (IntKind.wrap IntKind.i64 ((0 : Int) + (1 : Int)) + (1 : Int)) ∧ IntKind.wrap IntKind.i64 (IntKind.wrap IntKind.i64 ((0 : Int) + (1 : Int)) + (1 : Int)) < (↑(3) : Int)) (.ff (.out (AV.isl (1) (3) fun (r k : Nat) => atL (List.getD [[AV.str (bs wDeposit)], [AV.str (bs wHolder)], [AV.str (bs (itoa a.2))]] (r + 0) []) k) [] (wlA (lineF { kind := (4 : Int), ws := [wDeposit, wHolder, wWho], whom := (1 : Int) } a)) [])))))))))))))))))
    (by kernel_rfl) ?_
  refine k_gc (c0) ?_
  refine k_tt ?_
  refine k_req ((by first | omega | decide)) ?_
  refine k_gc (f0 (Cmd.kind a) (Cmd.who a) (Cmd.whom a) (Cmd.amount a) (Cmd.honest a)) ?_
  refine k_ff ?_
  refine k_tt ?_
  refine k_req ((by first | omega | decide)) ?_
  refine k_gc (f1 (Cmd.kind a) (Cmd.who a) (Cmd.whom a) (Cmd.amount a) (Cmd.honest a)) ?_
  refine k_ff ?_
  refine k_tt ?_
  refine k_req ((by first | omega | decide)) ?_
  refine k_gc ((field_1 m) (Cmd.kind a) (Cmd.who a) (Cmd.whom a) (Cmd.amount a) (Cmd.honest a)) ?_
  refine k_tt ?_
  refine k_sc (n1) ?_
  refine k_req ((by first | omega | decide)) ?_
  refine k_ff ?_
  exact k_out (Ent.isl (fun i j hi hj => by have e := Nat.lt_one_iff.1 hj; subst e; exact (match i, hi with | 0, _ | 1, _ | 2, _ => rfl)))

theorem line_5 (m : GP) (a : Cmd) (ha : CmdR a) : Pure Tryz.prog (gl0 m) 84 [.agg [.int .i64 5, .str (bs wf5), .int .i64 0], .agg a.cells] (wlA (lineF ⟨5, [wDouble, wWho, wWhom, wAmount], 0⟩ a)) := by
  have c0 := fields_5 m
  have f0 := fun c0 c1 c2 c3 c4 => field_0 m c0 c1 c2 c3 c4 wDouble (fd _ (by decide)).1 (fd _ (by decide)).2.1 (fd _ (by decide)).2.2
  have n1 := itoa_c m a.who ha.who
  have n2 := itoa_c m a.whom ha.whom
  have n3 := itoa_c m a.amount ha.amount
  refine pure_sk (own := (owM 5)) Tryz.func84 (by kernel_rfl) mixed (by kernel_rfl)
    (.gc 86 ([]) ([AV.str (bs wf5)]) (AV.osl (0 : Nat) (1 : Nat) (0 : Nat) (4 : Nat)) ([some { es := (1 : Nat), n := (4 : Nat), mu := true, f := Rep.lst [[AV.str (bs wDouble)], [AV.str (bs wWho)], [AV.str (bs wWhom)], [AV.str (bs wAmount)]] }]) (.tt (.req ((0 : Int) ≤ (0 : Int) ∧ (0 : Int) < (↑(4) : Int)) (.gc 131 ([{ es := 5, n := 1, mu := true, f := Rep.lst [Cmd.cells a] }]) ([AV.own (0) (5) (0) (0) (5), AV.str (bs wDouble)]) (AV.raw (Value.pointer none)) ([some { es := (5 : Nat), n := (1 : Nat), mu := true, f := Rep.lst [[Zi (Cmd.kind a), Zi (Cmd.who a), Zi (Cmd.whom a), Zi (Cmd.amount a), AV.bool (Cmd.honest a)]] }]) (.ff (.tt (.req ((0 : Int) ≤ IntKind.wrap IntKind.i64 ((0 : Int) + (1 : Int)) ∧ IntKind.wrap IntKind.i64 ((0 : Int) + (1 : Int)) < (↑(4) : Int)) (.gc 131 ([{ es := 5, n := 1, mu := true, f := Rep.lst [Cmd.cells a] }]) ([AV.own (0) (5) (0) (0) (5), AV.str (bs wWho)]) (AV.own (0 : Nat) (5 : Nat) (0 : Nat) (1 : Nat) (1 : Nat)) ([some { es := (5 : Nat), n := (1 : Nat), mu := true, f := Rep.lst [[Zi (Cmd.kind a), Zi (Cmd.who a), Zi (Cmd.whom a), Zi (Cmd.amount a), AV.bool (Cmd.honest a)]] }]) (.tt (.sc (true) 35 ([Zi a.2]) (AV.str (bs (itoa (Cmd.who a)))) (.req ((0 : Int) ≤ IntKind.wrap IntKind.i64 ((0 : Int) + (1 : Int)) ∧ IntKind.wrap IntKind.i64 ((0 : Int) + (1 : Int)) < (↑(4) : Int)) (.tt (.req ((0 : Int) ≤ IntKind.wrap IntKind.i64 (IntKind.wrap IntKind.i64 ((0 : Int) + (1 : Int)) + (1 : Int)) ∧ IntKind.wrap IntKind.i64 (IntKind.wrap IntKind.i64 ((0 : Int) + (1 : Int)) + (1 : Int)) < (↑(4) : Int)) (.gc 131 ([{ es := 5, n := 1, mu := true, f := Rep.lst [Cmd.cells a] }]) ([AV.own (0) (5) (0) (0) (5), AV.str (bs wWhom)]) (AV.own (0 : Nat) (5 : Nat) (0 : Nat) (2 : Nat) (1 : Nat)) ([some { es := (5 : Nat), n := (1 : Nat), mu := true, f := Rep.lst [[Zi (Cmd.kind a), Zi (Cmd.who a), Zi (Cmd.whom a), Zi (Cmd.amount a), AV.bool (Cmd.honest a)]] }]) (.tt (.sc (true) 35 ([Zi a.3]) (AV.str (bs (itoa (Cmd.whom a)))) (.req ((0 : Int) ≤ IntKind.wrap IntKind.i64 (IntKind.wrap IntKind.i64 ((0 : Int) + (1 : Int)) + (1 : Int)) ∧ IntKind.wrap IntKind.i64 (IntKind.wrap IntKind.i64 ((0 : Int) + (1 : Int)) + (1 : Int)) < (↑(4) : Int)) (.tt (.req ((0 : Int) ≤ IntKind.wrap IntKind.i64 (IntKind.wrap IntKind.i64 (IntKind.wrap IntKind.i64 ((0 : Int) + (1 : Int)) + (1 : Int)) + (1 : Int)) ∧ IntKind.wrap IntKind.i64 (IntKind.wrap IntKind.i64 (IntKind.wrap IntKind.i64 ((0 : Int) + (1 : Int)) + (1 : Int)) + (1 : Int)) < (↑(4) : Int)) (.gc 131 ([{ es := 5, n := 1, mu := true, f := Rep.lst [Cmd.cells a] }]) ([AV.own (0) (5) (0) (0) (5), AV.str (bs wAmount)]) (AV.own (0 : Nat) (5 : Nat) (0 : Nat) (3 : Nat) (1 : Nat)) ([some { es := (5 : Nat), n := (1 : Nat), mu := true, f := Rep.lst [[Zi (Cmd.kind a), Zi (Cmd.who a), Zi (Cmd.whom a), Zi (Cmd.amount a), AV.bool (Cmd.honest a)]] }]) (.tt (.sc (true) 35 ([Zi a.4]) (AV.str (bs (itoa (Cmd.amount a)))) (.req ((0 : Int) ≤ IntKind.wrap IntKind.i64 (IntKind.wrap IntKind.i64 (IntKind.wrap IntKind.i64 ((0 : Int) + (1 : Int)) + (1 : Int)) + (1 : Int)) ∧ IntKind.wrap IntKind.i64 (IntKind.wrap IntKind.i64 (IntKind.wrap IntKind.i64 ((0 : Int) + (1 : Int)) + (1 : Int)) + (1 : Int)) < (↑(4) : Int)) (.ff (.out (AV.isl (1) (4) fun (r k : Nat) => atL (List.getD [[AV.str (bs wDouble)], [AV.str (bs (itoa a.2))], [AV.str (bs (itoa a.3))], [AV.str (bs (itoa a.4))]] (r + 0) []) k) [] (wlA (lineF { kind := (5 : Int), ws := [wDouble, wWho, wWhom, wAmount], whom := (0 : Int) } a)) [])))))))))))))))))))))))))
    (by kernel_rfl) ?_
  refine k_gc (c0) ?_
  refine k_tt ?_
  refine k_req ((by first | omega | decide)) ?_
  refine k_gc (f0 (Cmd.kind a) (Cmd.who a) (Cmd.whom a) (Cmd.amount a) (Cmd.honest a)) ?_
  refine k_ff ?_
  refine k_tt ?_
  refine k_req ((by first | omega | decide)) ?_
  refine k_gc ((field_1 m) (Cmd.kind a) (Cmd.who a) (Cmd.whom a) (Cmd.amount a) (Cmd.honest a)) ?_
  refine k_tt ?_
  refine k_sc (n1) ?_
  refine k_req ((by first | omega | decide)) ?_
  refine k_tt ?_
  refine k_req ((by first | omega | decide)) ?_
  refine k_gc ((field_2 m) (Cmd.kind a) (Cmd.who a) (Cmd.whom a) (Cmd.amount a) (Cmd.honest a)) ?_
  refine k_tt ?_
  refine k_sc (n2) ?_
  refine k_req ((by first | omega | decide)) ?_
  refine k_tt ?_
  refine k_req ((by first | omega | decide)) ?_
  refine k_gc ((field_3 m) (Cmd.kind a) (Cmd.who a) (Cmd.whom a) (Cmd.amount a) (Cmd.honest a)) ?_
  refine k_tt ?_
  refine k_sc (n3) ?_
  refine k_req ((by first | omega | decide)) ?_
  refine k_ff ?_
  exact k_out (Ent.isl (fun i j hi hj => by have e := Nat.lt_one_iff.1 hj; subst e; exact (match i, hi with | 0, _ | 1, _ | 2, _ | 3, _ => rfl)))

theorem line_6 (m : GP) (a : Cmd) (ha : CmdR a) : Pure Tryz.prog (gl0 m) 84 [.agg [.int .i64 6, .str (bs wf6), .int .i64 0], .agg a.cells] (wlA (lineF ⟨6, [wTrace, wWho], 0⟩ a)) := by
  have c0 := fields_6 m
  have f0 := fun c0 c1 c2 c3 c4 => field_0 m c0 c1 c2 c3 c4 wTrace (fd _ (by decide)).1 (fd _ (by decide)).2.1 (fd _ (by decide)).2.2
  have n1 := itoa_c m a.who ha.who
  refine pure_sk (own := (owM 5)) Tryz.func84 (by kernel_rfl) mixed (by kernel_rfl)
    (.gc 86 ([]) ([AV.str (bs wf6)]) (AV.osl (0 : Nat) (1 : Nat) (0 : Nat) (2 : Nat)) ([some { es := (1 : Nat), n := (2 : Nat), mu := true, f := Rep.lst [[AV.str (bs wTrace)], [AV.str (bs wWho)]] }]) (.tt (.req ((0 : Int) ≤ (0 : Int) ∧ (0 : Int) < (↑(2) : Int)) (.gc 131 ([{ es := 5, n := 1, mu := true, f := Rep.lst [Cmd.cells a] }]) ([AV.own (0) (5) (0) (0) (5), AV.str (bs wTrace)]) (AV.raw (Value.pointer none)) ([some { es := (5 : Nat), n := (1 : Nat), mu := true, f := Rep.lst [[Zi (Cmd.kind a), Zi (Cmd.who a), Zi (Cmd.whom a), Zi (Cmd.amount a), AV.bool (Cmd.honest a)]] }]) (.ff (.tt (.req ((0 : Int) ≤ IntKind.wrap IntKind.i64 ((0 : Int) + (1 : Int)) ∧ IntKind.wrap IntKind.i64 ((0 : Int) + (1 : Int)) < (↑(2) : Int)) (.gc 131 ([{ es := 5, n := 1, mu := true, f := Rep.lst [Cmd.cells a] }]) ([AV.own (0) (5) (0) (0) (5), AV.str (bs wWho)]) (AV.own (0 : Nat) (5 : Nat) (0 : Nat) (1 : Nat) (1 : Nat)) ([some { es := (5 : Nat), n := (1 : Nat), mu := true, f := Rep.lst [[Zi (Cmd.kind a), Zi (Cmd.who a), Zi (Cmd.whom a), Zi (Cmd.amount a), AV.bool (Cmd.honest a)]] }]) (.tt (.sc (true) 35 ([Zi a.2]) (AV.str (bs (itoa (Cmd.who a)))) (.req ((0 : Int) ≤ IntKind.wrap IntKind.i64 ((0 : Int) + (1 : Int)) ∧ IntKind.wrap IntKind.i64 ((0 : Int) + (1 : Int)) < (↑(2) : Int)) (.ff (.out (AV.isl (1) (2) fun (r k : Nat) => atL (List.getD [[AV.str (bs wTrace)], [AV.str (bs (itoa a.2))]] (r + 0) []) k) [] (wlA (lineF { kind := (6 : Int), ws := [wTrace, wWho], whom := (0 : Int) } a)) [])))))))))))))
    (by kernel_rfl) ?_
  refine k_gc (c0) ?_
  refine k_tt ?_
  refine k_req ((by first | omega | decide)) ?_
  refine k_gc (f0 (Cmd.kind a) (Cmd.who a) (Cmd.whom a) (Cmd.amount a) (Cmd.honest a)) ?_
  refine k_ff ?_
  refine k_tt ?_
  refine k_req ((by first | omega | decide)) ?_
  refine k_gc ((field_1 m) (Cmd.kind a) (Cmd.who a) (Cmd.whom a) (Cmd.amount a) (Cmd.honest a)) ?_
  refine k_tt ?_
  refine k_sc (n1) ?_
  refine k_req ((by first | omega | decide)) ?_
  refine k_ff ?_
  exact k_out (Ent.isl (fun i j hi hj => by have e := Nat.lt_one_iff.1 hj; subst e; exact (match i, hi with | 0, _ | 1, _ => rfl)))

theorem line_7 (m : GP) (a : Cmd) (ha : CmdR a) : Pure Tryz.prog (gl0 m) 84 [.agg [.int .i64 7, .str (bs wf7), .int .i64 0], .agg a.cells] (wlA (lineF ⟨7, [wClear], 0⟩ a)) := by
  have c0 := fields_7 m
  have f0 := fun c0 c1 c2 c3 c4 => field_0 m c0 c1 c2 c3 c4 wClear (fd _ (by decide)).1 (fd _ (by decide)).2.1 (fd _ (by decide)).2.2
  refine pure_sk (own := (owM 5)) Tryz.func84 (by kernel_rfl) mixed (by kernel_rfl)
    (.gc 86 ([]) ([AV.str (bs wf7)]) (AV.osl (0 : Nat) (1 : Nat) (0 : Nat) (1 : Nat)) ([some { es := (1 : Nat), n := (1 : Nat), mu := true, f := Rep.lst [[AV.str (bs wClear)]] }]) (.tt (.req ((0 : Int) ≤ (0 : Int) ∧ (0 : Int) < (↑(1) : Int)) (.gc 131 ([{ es := 5, n := 1, mu := true, f := Rep.lst [Cmd.cells a] }]) ([AV.own (0) (5) (0) (0) (5), AV.str (bs wClear)]) (AV.raw (Value.pointer none)) ([some { es := (5 : Nat), n := (1 : Nat), mu := true, f := Rep.lst [[Zi (Cmd.kind a), Zi (Cmd.who a), Zi (Cmd.whom a), Zi (Cmd.amount a), AV.bool (Cmd.honest a)]] }]) (.ff (.ff (.out (AV.isl (1) (1) fun (r k : Nat) => atL (List.getD [[AV.str (bs wClear)]] (r + 0) []) k) [] (wlA (lineF { kind := (7 : Int), ws := [wClear], whom := (0 : Int) } a)) [])))))))
    (by kernel_rfl) ?_
  refine k_gc (c0) ?_
  refine k_tt ?_
  refine k_req ((by first | omega | decide)) ?_
  refine k_gc (f0 (Cmd.kind a) (Cmd.who a) (Cmd.whom a) (Cmd.amount a) (Cmd.honest a)) ?_
  refine k_ff ?_
  refine k_ff ?_
  exact k_out (Ent.isl (fun i j hi hj => by have e := Nat.lt_one_iff.1 hj; subst e; exact (match i, hi with | 0, _ => rfl)))

theorem line_8 (m : GP) (a : Cmd) (ha : CmdR a) : Pure Tryz.prog (gl0 m) 84 [.agg [.int .i64 8, .str (bs wf8), .int .i64 0], .agg a.cells] (wlA (lineF ⟨8, [wTick, wAmount], 0⟩ a)) := by
  have c0 := fields_8 m
  have f0 := fun c0 c1 c2 c3 c4 => field_0 m c0 c1 c2 c3 c4 wTick (fd _ (by decide)).1 (fd _ (by decide)).2.1 (fd _ (by decide)).2.2
  have n3 := itoa_c m a.amount ha.amount
  refine pure_sk (own := (owM 5)) Tryz.func84 (by kernel_rfl) mixed (by kernel_rfl)
    (.gc 86 ([]) ([AV.str (bs wf8)]) (AV.osl (0 : Nat) (1 : Nat) (0 : Nat) (2 : Nat)) ([some { es := (1 : Nat), n := (2 : Nat), mu := true, f := Rep.lst [[AV.str (bs wTick)], [AV.str (bs wAmount)]] }]) (.tt (.req ((0 : Int) ≤ (0 : Int) ∧ (0 : Int) < (↑(2) : Int)) (.gc 131 ([{ es := 5, n := 1, mu := true, f := Rep.lst [Cmd.cells a] }]) ([AV.own (0) (5) (0) (0) (5), AV.str (bs wTick)]) (AV.raw (Value.pointer none)) ([some { es := (5 : Nat), n := (1 : Nat), mu := true, f := Rep.lst [[Zi (Cmd.kind a), Zi (Cmd.who a), Zi (Cmd.whom a), Zi (Cmd.amount a), AV.bool (Cmd.honest a)]] }]) (.ff (.tt (.req ((0 : Int) ≤ IntKind.wrap IntKind.i64 ((0 : Int) + (1 : Int)) ∧ IntKind.wrap IntKind.i64 ((0 : Int) + (1 : Int)) < (↑(2) : Int)) (.gc 131 ([{ es := 5, n := 1, mu := true, f := Rep.lst [Cmd.cells a] }]) ([AV.own (0) (5) (0) (0) (5), AV.str (bs wAmount)]) (AV.own (0 : Nat) (5 : Nat) (0 : Nat) (3 : Nat) (1 : Nat)) ([some { es := (5 : Nat), n := (1 : Nat), mu := true, f := Rep.lst [[Zi (Cmd.kind a), Zi (Cmd.who a), Zi (Cmd.whom a), Zi (Cmd.amount a), AV.bool (Cmd.honest a)]] }]) (.tt (.sc (true) 35 ([Zi a.4]) (AV.str (bs (itoa (Cmd.amount a)))) (.req ((0 : Int) ≤ IntKind.wrap IntKind.i64 ((0 : Int) + (1 : Int)) ∧ IntKind.wrap IntKind.i64 ((0 : Int) + (1 : Int)) < (↑(2) : Int)) (.ff (.out (AV.isl (1) (2) fun (r k : Nat) => atL (List.getD [[AV.str (bs wTick)], [AV.str (bs (itoa a.4))]] (r + 0) []) k) [] (wlA (lineF { kind := (8 : Int), ws := [wTick, wAmount], whom := (0 : Int) } a)) [])))))))))))))
    (by kernel_rfl) ?_
  refine k_gc (c0) ?_
  refine k_tt ?_
  refine k_req ((by first | omega | decide)) ?_
  refine k_gc (f0 (Cmd.kind a) (Cmd.who a) (Cmd.whom a) (Cmd.amount a) (Cmd.honest a)) ?_
  refine k_ff ?_
  refine k_tt ?_
  refine k_req ((by first | omega | decide)) ?_
  refine k_gc ((field_3 m) (Cmd.kind a) (Cmd.who a) (Cmd.whom a) (Cmd.amount a) (Cmd.honest a)) ?_
  refine k_tt ?_
  refine k_sc (n3) ?_
  refine k_req ((by first | omega | decide)) ?_
  refine k_ff ?_
  exact k_out (Ent.isl (fun i j hi hj => by have e := Nat.lt_one_iff.1 hj; subst e; exact (match i, hi with | 0, _ | 1, _ => rfl)))

def FM (i : Nat) : Go.Sp.Form := formL.getD i ⟨0, [], 0⟩
def FW (i : Nat) : Str := [wf0, wf1, wf2, wf3, wf4, wf5, wf6, wf7, wf8].getD i []
def fmA (i : Nat) : List AV := [.int .i64 (FM i).kind, .str (bs (FW i)), .int .i64 (FM i).whom]
theorem match_c (m : GP) (ws : List Str) (hw : ∀ w ∈ ws, w.length ≤ 281474976710656) (hn : ws.length < 9223372036854775808) (i : Nat) (hi : i < 9) : Pure Tryz.prog (gl0 m) 85 [.agg (fmA i), wlA ws] (.tup [.agg (Cmd.cells ((matchF (FM i) ws).getD .zero)), .bool (matchF (FM i) ws).isSome]) := by
  match i, hi with
  | 0, _ => exact match_0 m ws hw hn
  | 1, _ => exact match_1 m ws hw hn
  | 2, _ => exact match_2 m ws hw hn
  | 3, _ => exact match_3 m ws hw hn
  | 4, _ => exact match_4 m ws hw hn
  | 5, _ => exact match_5 m ws hw hn
  | 6, _ => exact match_6 m ws hw hn
  | 7, _ => exact match_7 m ws hw hn
  | 8, _ => exact match_8 m ws hw hn
theorem line_c (m : GP) (a : Cmd) (ha : CmdR a) (i : Nat) (hi : i < 9) : Pure Tryz.prog (gl0 m) 84 [.agg (fmA i), .agg a.cells] (wlA (lineF (FM i) a)) := by
  match i, hi with
  | 0, _ => exact line_0 m a ha
  | 1, _ => exact line_1 m a ha
  | 2, _ => exact line_2 m a ha
  | 3, _ => exact line_3 m a ha
  | 4, _ => exact line_4 m a ha
  | 5, _ => exact line_5 m a ha
  | 6, _ => exact line_6 m a ha
  | 7, _ => exact line_7 m a ha
  | 8, _ => exact line_8 m a ha
theorem forms_c (m : GP) : Pure Tryz.prog (gl0 m) 83 [] (.isl 3 9 fun i j => atL (fmA i) j) := by
  refine pure_sk (own := ow0) Tryz.func83 (by kernel_rfl) mixed (by kernel_rfl)
    (.out (AV.isl (3) (9) fun (r k : Nat) => atL (List.getD [[Zi 1, AV.str { data := #[(119 : UInt8), (105 : UInt8), (116 : UInt8), (104 : UInt8), (100 : UInt8), (114 : UInt8), (97 : UInt8), (119 : UInt8), (32 : UInt8), (87 : UInt8), (72 : UInt8), (79 : UInt8), (32 : UInt8), (65 : UInt8), (77 : UInt8), (79 : UInt8), (85 : UInt8), (78 : UInt8), (84 : UInt8)] }, Zi 0], [Zi 2, AV.str { data := #[(112 : UInt8), (97 : UInt8), (121 : UInt8), (32 : UInt8), (87 : UInt8), (72 : UInt8), (79 : UInt8), (32 : UInt8), (87 : UInt8), (72 : UInt8), (79 : UInt8), (77 : UInt8), (32 : UInt8), (65 : UInt8), (77 : UInt8), (79 : UInt8), (85 : UInt8), (78 : UInt8), (84 : UInt8)] }, Zi 0], [Zi 3, AV.str { data := #[(116 : UInt8), (114 : UInt8), (97 : UInt8), (110 : UInt8), (115 : UInt8), (102 : UInt8), (101 : UInt8), (114 : UInt8), (32 : UInt8), (87 : UInt8), (72 : UInt8), (79 : UInt8), (32 : UInt8), (87 : UInt8), (72 : UInt8), (79 : UInt8), (77 : UInt8), (32 : UInt8), (65 : UInt8), (77 : UInt8), (79 : UInt8), (85 : UInt8), (78 : UInt8), (84 : UInt8)] }, Zi 0], [Zi 4, AV.str { data := #[(100 : UInt8), (101 : UInt8), (112 : UInt8), (111 : UInt8), (115 : UInt8), (105 : UInt8), (116 : UInt8), (32 : UInt8), (109 : UInt8), (101 : UInt8), (114 : UInt8), (99 : UInt8), (104 : UInt8), (97 : UInt8), (110 : UInt8), (116 : UInt8), (32 : UInt8), (87 : UInt8), (72 : UInt8), (79 : UInt8)] }, Zi 0], [Zi 4, AV.str { data := #[(100 : UInt8), (101 : UInt8), (112 : UInt8), (111 : UInt8), (115 : UInt8), (105 : UInt8), (116 : UInt8), (32 : UInt8), (104 : UInt8), (111 : UInt8), (108 : UInt8), (100 : UInt8), (101 : UInt8), (114 : UInt8), (32 : UInt8), (87 : UInt8), (72 : UInt8), (79 : UInt8)] }, Zi 1], [Zi 5, AV.str { data := #[(100 : UInt8), (111 : UInt8), (117 : UInt8), (98 : UInt8), (108 : UInt8), (101 : UInt8), (32 : UInt8), (87 : UInt8), (72 : UInt8), (79 : UInt8), (32 : UInt8), (87 : UInt8), (72 : UInt8), (79 : UInt8), (77 : UInt8), (32 : UInt8), (65 : UInt8), (77 : UInt8), (79 : UInt8), (85 : UInt8), (78 : UInt8), (84 : UInt8)] }, Zi 0], [Zi 6, AV.str { data := #[(116 : UInt8), (114 : UInt8), (97 : UInt8), (99 : UInt8), (101 : UInt8), (32 : UInt8), (87 : UInt8), (72 : UInt8), (79 : UInt8)] }, Zi 0], [Zi 7, AV.str { data := #[(99 : UInt8), (108 : UInt8), (101 : UInt8), (97 : UInt8), (114 : UInt8)] }, Zi 0], [Zi 8, AV.str { data := #[(116 : UInt8), (105 : UInt8), (99 : UInt8), (107 : UInt8), (32 : UInt8), (65 : UInt8), (77 : UInt8), (79 : UInt8), (85 : UInt8), (78 : UInt8), (84 : UInt8)] }, Zi 0]] (r + 0) []) k) [] (AV.isl (3 : Nat) (9 : Nat) fun (i j : Nat) => atL (fmA i) j) [])
    (by kernel_rfl) ?_
  exact k_out (Ent.isl (fun i j hi hj => by exact (match i, hi with | 0, _ | 1, _ | 2, _ | 3, _ | 4, _ | 5, _ | 6, _ | 7, _ | 8, _ => match j, hj with | 0, _ | 1, _ | 2, _ => rfl)))


theorem formL_at {i : Nat} (hi : i < 9) : formL[i]? = some (FM i) := by
  match i, hi with | 0, _ | 1, _ | 2, _ | 3, _ | 4, _ | 5, _ | 6, _ | 7, _ | 8, _ => rfl
theorem find_at {α : Type} {f : Go.Sp.Form → Option α} {i : Nat} (hi : i < 9) (h : ∀ j, j < i → f (FM j) = none) : formL.findSome? f = (formL.drop i).findSome? f := by
  have e : formL.findSome? f = (formL.take i ++ formL.drop i).findSome? f := by rw [List.take_append_drop]
  rw [e, List.findSome?_append]
  have : (formL.take i).findSome? f = none := List.findSome?_eq_none_iff.2 fun x hx => by
    obtain ⟨j, hj, rfl⟩ := List.getElem_of_mem hx
    have hj' : j < i := by simp at hj; omega
    have k := formL_at (i := j) (by omega)
    rw [List.getElem_take]
    rw [(List.getElem?_eq_some_iff.1 k).2]
    exact h j hj'
  rw [this]; rfl
theorem find_s {α : Type} {f : Go.Sp.Form → Option α} {i : Nat} {a : α} (hi : i < 9) (h : ∀ j, j < i → f (FM j) = none) (h1 : f (FM i) = some a) : formL.findSome? f = some a := by
  rw [find_at hi h]
  have k := formL_at hi
  have hl : i < formL.length := hi
  rw [List.drop_eq_getElem_cons hl, (List.getElem?_eq_some_iff.1 k).2, List.findSome?_cons, h1]
theorem find_n {α : Type} {f : Go.Sp.Form → Option α} (h : ∀ j, j < 9 → f (FM j) = none) : formL.findSome? f = none := List.findSome?_eq_none_iff.2 fun x hx => by
  obtain ⟨j, hj, rfl⟩ := List.getElem_of_mem hx
  have hj' : j < 9 := hj
  rw [(List.getElem?_eq_some_iff.1 (formL_at hj')).2]
  exact h j hj'
def rdA (o : Option Cmd) : AV := .tup [.agg (Cmd.cells (o.getD .zero)), .bool o.isSome]

theorem rd_s {ws : List Str} {i : Nat} (q : i ≤ 9 ∧ ∀ j, j < i → matchF (FM j) ws = none) (hi : i < 9) (h : (matchF (FM i) ws).isSome = true) : AV.tup [.agg (Cmd.cells ((matchF (FM i) ws).getD .zero)), .bool true] = rdA (readF ws) := by
  obtain ⟨a, ha⟩ := Option.isSome_iff_exists.1 h
  have : readF ws = some a := find_s hi q.2 ha
  rw [this, ha]; rfl
theorem rd_n {ws : List Str} (q : ∀ j, j < 9 → matchF (FM j) ws = none) : AV.tup [.agg [.int .i64 0, .int .i64 0, .int .i64 0, .int .i64 0, .bool false], .bool false] = rdA (readF ws) := by
  have : readF ws = none := find_n q
  rw [this]; rfl

theorem read_c (m : GP) (ws : List Str) (hw : ∀ w ∈ ws, w.length ≤ 281474976710656) (hn : ws.length < 9223372036854775808) : Pure Tryz.prog (gl0 m) 82 [wlA ws] (rdA (readF ws)) := by
  have c1 := forms_c m
  have c2 := fun i hi => match_c m ws hw hn i hi
  refine pure_sk (own := ow0) Tryz.func82 (by kernel_rfl) mixed (by kernel_rfl)
    (.dc (true) 83 ([]) (AV.isl (3 : Nat) (9 : Nat) fun (i j : Nat) => atL (fmA i) j) (.loop ({ x : Nat // x ≤ (9 : Nat) ∧ (fun (x : Nat) => ∀ (j : Nat), j < x → matchF (FM j) ws = none) x }) (fun (x : { x : Nat // x ≤ (9 : Nat) ∧ (fun (x : Nat) => ∀ (j : Nat), j < x → matchF (FM j) ws = none) x }) => mkSt [0, 2, 8, 9, 10] [AV.isl (1) (List.length ws) fun (i x : Nat) => AV.str (bs (List.getD ws i [])), AV.own (0) (5) (0) (0) (5), AV.isl (3) (9) fun (i j : Nat) => atL (fmA i) j, Zi (↑(9) : Int), Zi (↑(x.1) : Int)] [some { es := 5, n := 1, mu := true, f := Rep.lst [[Zi 0, Zi 0, Zi 0, Zi 0, AV.bool false]] }]) (fun (x : { x : Nat // x ≤ (9 : Nat) ∧ (fun (x : Nat) => ∀ (j : Nat), j < x → matchF (FM j) ws = none) x }) => (9 : Nat) - x.1) (⟨(0 : Nat), ⟨of_decide_eq_true (id (Eq.refl true)), fun (j : Nat) (hj : j < (0 : Nat)) => absurd hj (Nat.not_lt_zero j)⟩⟩) ([0, 2, 8, 9, 10]) ([0]) ([AV.isl (1) (List.length ws) fun (i x : Nat) => AV.str (bs (List.getD ws i [])), AV.own (0) (5) (0) (0) (5), AV.isl (3) (9) fun (i j : Nat) => atL (fmA i) j, Zi (↑(9) : Int), Zi 0]) ([some { es := 5, n := 1, mu := true, f := Rep.lst [[Zi 0, Zi 0, Zi 0, Zi 0, AV.bool false]] }]) (fun x1 => (.br (decide ((↑x1.1 : Int) < (↑(9) : Int))) (.req ((0 : Int) ≤ (↑x1.1 : Int) ∧ (↑x1.1 : Int) < (↑(9) : Int)) (.sc (true) 85 ([AV.agg [Zi (FM (Int.toNat (↑(x1.1) : Int))).1, AV.str (bs (FW (Int.toNat (↑x1.1 : Int)))), Zi (FM (Int.toNat (↑(x1.1) : Int))).3], AV.isl (1) (List.length ws) fun (i x : Nat) => AV.str (bs (List.getD ws i []))]) (AV.tup [AV.agg (Cmd.cells (Option.getD (matchF (FM (Int.toNat (↑(x1.1) : Int))) ws) Cmd.zero)), AV.bool (Option.isSome (matchF (FM (Int.toNat (↑(x1.1) : Int))) ws))]) (.br (Option.isSome (matchF (FM (Int.toNat (↑x1.1 : Int))) ws)) (.out (AV.tup [AV.agg (Cmd.cells (Option.getD (matchF (FM (Int.toNat (↑(x1.1) : Int))) ws) Cmd.zero)), AV.bool true]) [] (rdA (readF ws)) []) (.again (Again (0) (fun (x : { x : Nat // x ≤ (9 : Nat) ∧ (fun (x : Nat) => ∀ (j : Nat), j < x → matchF (FM j) ws = none) x }) => mkSt [0, 2, 8, 9, 10] [AV.isl (1) (List.length ws) fun (i x : Nat) => AV.str (bs (List.getD ws i [])), AV.own (0) (5) (0) (0) (5), AV.isl (3) (9) fun (i j : Nat) => atL (fmA i) j, Zi (↑(9) : Int), Zi (↑(x.1) : Int)] [some { es := 5, n := 1, mu := true, f := Rep.lst [[Zi 0, Zi 0, Zi 0, Zi 0, AV.bool false]] }]) (fun (x : { x : Nat // x ≤ (9 : Nat) ∧ (fun (x : Nat) => ∀ (j : Nat), j < x → matchF (FM j) ws = none) x }) => (9 : Nat) - x.1) x1) ([0, 2, 8, 9, 10]) ([0]) ([AV.isl (1) (List.length ws) fun (i x : Nat) => AV.str (bs (List.getD ws i [])), AV.own (0) (5) (0) (0) (5), AV.isl (3) (9) fun (i j : Nat) => atL (fmA i) j, Zi (↑(9) : Int), Zi (IntKind.wrap IntKind.i64 ((↑x1.1 : Int) + (1 : Int)))]) ([some { es := 5, n := 1, mu := true, f := Rep.lst [[Zi 0, Zi 0, Zi 0, Zi 0, AV.bool false]] }]))))) (.out (AV.tup [AV.agg [Zi 0, Zi 0, Zi 0, Zi 0, AV.bool false], AV.bool false]) [] (rdA (readF ws)) [])))))
    (by kernel_rfl) ?_
  refine k_dc (c1) ?_
  refine k_loop (fun _ hs => hs.le (by repeat' (first | exact trivial | (first | exact Ent.refl _ | exact inc_ent (by omega) | exact Ent.nil rfl | exact Ent.of_eq (congrArg (AV.osl _ _ _) (by first | omega | (dsimp only; omega))) | exact Ent.of_eq (congrArg (AV.int _) (by first | omega | (dsimp only; omega)))) | refine And.intro ?_ ?_)) (by repeat' (first | exact trivial | (first | exact ObEnt.refl _ | exact ObEnt.junk | exact ObEnt.zero | exact ObEnt.push rfl rfl | exact ObEnt.pushRow rfl | exact ObEnt.len (by omega) | exact ObEnt.row (by repeat' (first | exact trivial | (first | exact Ent.refl _ | exact inc_ent (by omega) | exact Ent.nil rfl | exact Ent.of_eq (congrArg (AV.osl _ _ _) (by first | omega | (dsimp only; omega))) | exact Ent.of_eq (congrArg (AV.int _) (by first | omega | (dsimp only; omega)))) | refine And.intro ?_ ?_))) | refine And.intro ?_ ?_))) (fun x1 => ?_)
  try (have q1 := x1.2; dsimp only at q1)
  have e1 := wI (n := (x1.1 : Int) + 1) (by omega) (by omega)
  refine k_br (fun h2 => ?_) (fun h2 => ?_)
  · have g2 := cnd_dec_t h2
    refine k_req (by first | omega | (simp only [Int.toNat_natCast]; omega)) ?_
    refine k_sc (c2 (Int.toNat (↑(x1.1) : Int)) ((by simp only [Int.toNat_natCast]; omega))) ?_
    refine k_br (fun h5 => ?_) (fun h5 => ?_)
    · have g5 := cnd_id_t h5
      try simp only [Int.toNat_natCast] at g5
      exact k_out ((Ent.of_eq (by simp only [Int.toNat_natCast] at h5 ⊢; exact rd_s q1 (by omega) h5)))
    · have g5 := cnd_id_f h5
      try simp only [Int.toNat_natCast] at g5
      exact k_again (⟨x1.1 + 1, by omega, fun j hj => by rcases Nat.lt_succ_iff_lt_or_eq.1 hj with hj | hj; (· exact q1.2 j hj); (· rw [hj]; simpa using h5)⟩) (fun _ hs => hs.le (by repeat' (first | exact trivial | (first | exact Ent.refl _ | exact inc_ent (by omega) | exact Ent.nil rfl | exact Ent.of_eq (congrArg (AV.osl _ _ _) (by first | omega | (dsimp only; omega))) | exact Ent.of_eq (congrArg (AV.int _) (by first | omega | (dsimp only; omega)))) | refine And.intro ?_ ?_)) (by repeat' (first | exact trivial | (first | exact ObEnt.refl _ | exact ObEnt.junk | exact ObEnt.zero | exact ObEnt.push rfl rfl | exact ObEnt.pushRow rfl | exact ObEnt.len (by omega) | exact ObEnt.row (by repeat' (first | exact trivial | (first | exact Ent.refl _ | exact inc_ent (by omega) | exact Ent.nil rfl | exact Ent.of_eq (congrArg (AV.osl _ _ _) (by first | omega | (dsimp only; omega))) | exact Ent.of_eq (congrArg (AV.int _) (by first | omega | (dsimp only; omega)))) | refine And.intro ?_ ?_))) | refine And.intro ?_ ?_))) (by first | omega | (dsimp only; omega) | (simp; omega))
  · have g2 := cnd_dec_f h2
    exact k_out (Ent.of_eq (rd_n (fun j hj => q1.2 j (by omega))))


theorem nd_lt : ∀ (k u : Nat), u < 10 ^ (k + 1) → nDigits u ≤ k + 1
  | 0, u, h => by rw [nDigits_small (by simpa using h)]; omega
  | k + 1, u, h => by
    by_cases h10 : u < 10
    · rw [nDigits_small h10]; omega
    · rw [nDigits_big h10]
      have := nd_lt k (u / 10) (by rw [Nat.pow_succ] at h; omega)
      omega
theorem itoa_len {n : Int} (h : iR n) : (itoa n).length ≤ 21 := by
  have e : (10 : Nat) ^ 20 = 100000000000000000000 := by decide
  unfold itoa
  obtain ⟨h1, h2⟩ := h
  split
  · rw [List.length_cons, decDigits_length]
    have := nd_lt 19 n.natAbs (by omega)
    omega
  · rw [decDigits_length]
    have := nd_lt 19 n.toNat (by omega)
    omega
theorem joinS_len : ∀ (ws : List Str) (n : Nat), (∀ w ∈ ws, w.length ≤ n) → (joinS ws).length ≤ ws.length * (n + 1)
  | [], n, _ => Nat.zero_le _
  | [w], n, h => by rw [joinS_one]; have := h w (List.mem_cons_self ..); simp; omega
  | w :: v :: ws, n, h => by
    rw [joinS_cons, List.length_append, List.length_cons]
    have h1 := h w (List.mem_cons_self ..)
    have h2 := joinS_len (v :: ws) n fun x hx => h x (List.mem_cons_of_mem _ hx)
    rw [List.length_cons (a := w), Nat.succ_mul]
    omega
theorem lineF_len {a : Cmd} (ha : CmdR a) (i : Nat) (hi : i < 9) : (∀ w ∈ lineF (FM i) a, w.length ≤ 21) ∧ (lineF (FM i) a).length ≤ 4 := by
  have k : (FM i).ws.length ≤ 4 ∧ ∀ w ∈ (FM i).ws, w.length ≤ 21 := by
    match i, hi with | 0, _ | 1, _ | 2, _ | 3, _ | 4, _ | 5, _ | 6, _ | 7, _ | 8, _ => exact ⟨by decide, by decide⟩
  refine ⟨fun w hw => ?_, by unfold lineF; rw [List.length_map]; exact k.1⟩
  unfold lineF at hw
  obtain ⟨p, hp, rfl⟩ := List.mem_map.1 hw
  split
  · exact k.2 p hp
  · refine itoa_len ?_
    unfold Cmd.get
    split
    · exact ha.who
    · exact ha.whom
    · exact ha.amount
theorem txt1 (f : Go.Sp.Form) (a : Cmd) : textF1 f a = if ((matchF f (lineF f a)).isSome && ((((matchF f (lineF f a)).getD .zero).kind == a.kind) && ((((matchF f (lineF f a)).getD .zero).who == a.who) && ((((matchF f (lineF f a)).getD .zero).whom == a.whom) && ((((matchF f (lineF f a)).getD .zero).amount == a.amount) && ((((matchF f (lineF f a)).getD .zero).honest == a.honest) && true)))))) = true then some (joinS (lineF f a)) else none := by
  unfold textF1
  cases matchF f (lineF f a) with
  | none => rfl
  | some b =>
    simp only [Option.isSome_some, Option.getD_some, Bool.true_and, Bool.and_true]
    rfl

def txA (o : Option Str) : AV := match o with | some s => .tup [.str (bs s), .int .i64 0] | none => .tup [.str (bs []), .int .i64 1]

theorem text_c (m : GP) (a : Cmd) (ha : CmdR a) : Pure Tryz.prog (gl0 m) 50 [.agg a.cells] (txA (textF a)) := by
  have c1 := forms_c m
  have c2 := fun i hi => line_c m a ha i hi
  have c3 := fun i hi => match_c m (lineF (FM i) a) (fun w hw => Nat.le_trans ((lineF_len ha i hi).1 w hw) (by decide)) (Nat.lt_of_le_of_lt (lineF_len ha i hi).2 (by decide)) i hi
  have c4 := fun i (hi : i < 9) => join_c m (lineF (FM i) a) (by have k := lineF_len ha i hi; have := joinS_len _ 21 k.1; omega) (Nat.le_trans (lineF_len ha i hi).2 (by decide))
  refine pure_sk (own := ow0) Tryz.func50 (by kernel_rfl) mixed (by kernel_rfl)
    (.dc (true) 83 ([]) (AV.isl (3 : Nat) (9 : Nat) fun (i j : Nat) => atL (fmA i) j) (.loop ({ x : Nat // x ≤ (9 : Nat) ∧ (fun (x : Nat) => ∀ (j : Nat), j < x → textF1 (FM j) a = none) x }) (fun (x : { x : Nat // x ≤ (9 : Nat) ∧ (fun (x : Nat) => ∀ (j : Nat), j < x → textF1 (FM j) a = none) x }) => mkSt [1, 9, 10, 11] [AV.own (0) (5) (0) (0) (5), AV.isl (3) (9) fun (i j : Nat) => atL (fmA i) j, Zi (↑(9) : Int), Zi (↑(x.1) : Int)] [some { es := 5, n := 1, mu := true, f := Rep.lst [Cmd.cells a] }]) (fun (x : { x : Nat // x ≤ (9 : Nat) ∧ (fun (x : Nat) => ∀ (j : Nat), j < x → textF1 (FM j) a = none) x }) => (9 : Nat) - x.1) (⟨(0 : Nat), ⟨of_decide_eq_true (id (Eq.refl true)), fun (j : Nat) (hj : j < (0 : Nat)) => absurd hj (Nat.not_lt_zero j)⟩⟩) ([1, 9, 10, 11]) ([0]) ([AV.own (0) (5) (0) (0) (5), AV.isl (3) (9) fun (i j : Nat) => atL (fmA i) j, Zi (↑(9) : Int), Zi 0]) ([some { es := 5, n := 1, mu := true, f := Rep.lst [Cmd.cells a] }]) (fun x1 => (.br (decide ((↑x1.1 : Int) < (↑(9) : Int))) (.req ((0 : Int) ≤ (↑x1.1 : Int) ∧ (↑x1.1 : Int) < (↑(9) : Int)) (.dc (true) 84 ([AV.agg [Zi (FM (Int.toNat (↑(x1.1) : Int))).1, AV.str (bs (FW (Int.toNat (↑x1.1 : Int)))), Zi (FM (Int.toNat (↑(x1.1) : Int))).3], AV.agg (Cmd.cells a)]) (wlA (lineF (FM (Int.toNat (↑(x1.1) : Int))) a)) (.sc (true) 85 ([AV.agg [Zi (FM (Int.toNat (↑(x1.1) : Int))).1, AV.str (bs (FW (Int.toNat (↑x1.1 : Int)))), Zi (FM (Int.toNat (↑(x1.1) : Int))).3], AV.isl (1) (List.length (lineF (FM (Int.toNat (↑(x1.1) : Int))) a)) fun (i x : Nat) => AV.str (bs (List.getD (lineF (FM (Int.toNat (↑(x1.1) : Int))) a) i []))]) (AV.tup [AV.agg (Cmd.cells (Option.getD (matchF (FM (Int.toNat (↑(x1.1) : Int))) (lineF (FM (Int.toNat (↑(x1.1) : Int))) a)) Cmd.zero)), AV.bool (Option.isSome (matchF (FM (Int.toNat (↑(x1.1) : Int))) (lineF (FM (Int.toNat (↑(x1.1) : Int))) a)))]) (.br (Option.isSome (matchF (FM (Int.toNat (↑x1.1 : Int))) (lineF (FM (Int.toNat (↑x1.1 : Int))) a)) && ((Option.getD (matchF (FM (Int.toNat (↑(x1.1) : Int))) (lineF (FM (Int.toNat (↑(x1.1) : Int))) a)) Cmd.zero).1 == a.1 && ((Option.getD (matchF (FM (Int.toNat (↑(x1.1) : Int))) (lineF (FM (Int.toNat (↑(x1.1) : Int))) a)) Cmd.zero).2 == a.2 && ((Option.getD (matchF (FM (Int.toNat (↑(x1.1) : Int))) (lineF (FM (Int.toNat (↑(x1.1) : Int))) a)) Cmd.zero).3 == a.3 && ((Option.getD (matchF (FM (Int.toNat (↑(x1.1) : Int))) (lineF (FM (Int.toNat (↑(x1.1) : Int))) a)) Cmd.zero).4 == a.4 && ((Option.getD (matchF (FM (Int.toNat (↑(x1.1) : Int))) (lineF (FM (Int.toNat (↑(x1.1) : Int))) a)) Cmd.zero).5 == a.5 && true)))))) (.sc (true) 70 ([AV.isl (1) (List.length (lineF (FM (Int.toNat (↑(x1.1) : Int))) a)) fun (i x : Nat) => AV.str (bs (List.getD (lineF (FM (Int.toNat (↑(x1.1) : Int))) a) i [])), AV.str { data := #[(32 : UInt8)] }]) (AV.str (bs (joinS (lineF (FM (Int.toNat (↑(x1.1) : Int))) a)))) (.out (AV.tup [AV.str (bs (joinS (lineF (FM (Int.toNat (↑x1.1 : Int))) a))), Zi 0]) [] (txA (textF a)) [])) (.again (Again (0) (fun (x : { x : Nat // x ≤ (9 : Nat) ∧ (fun (x : Nat) => ∀ (j : Nat), j < x → textF1 (FM j) a = none) x }) => mkSt [1, 9, 10, 11] [AV.own (0) (5) (0) (0) (5), AV.isl (3) (9) fun (i j : Nat) => atL (fmA i) j, Zi (↑(9) : Int), Zi (↑(x.1) : Int)] [some { es := 5, n := 1, mu := true, f := Rep.lst [Cmd.cells a] }]) (fun (x : { x : Nat // x ≤ (9 : Nat) ∧ (fun (x : Nat) => ∀ (j : Nat), j < x → textF1 (FM j) a = none) x }) => (9 : Nat) - x.1) x1) ([1, 9, 10, 11]) ([0]) ([AV.own (0) (5) (0) (0) (5), AV.isl (3) (9) fun (i j : Nat) => atL (fmA i) j, Zi (↑(9) : Int), Zi (IntKind.wrap IntKind.i64 ((↑x1.1 : Int) + (1 : Int)))]) ([some { es := 5, n := 1, mu := true, f := Rep.lst [Cmd.cells a] }])))))) (.out (AV.tup [AV.str { data := #[] }, Zi 1]) [] (txA (textF a)) [])))))
    (by kernel_rfl) ?_
  refine k_dc (c1) ?_
  refine k_loop (fun _ hs => hs.le (by repeat' (first | exact trivial | (first | exact Ent.refl _ | exact inc_ent (by omega) | exact Ent.nil rfl | exact Ent.of_eq (congrArg (AV.osl _ _ _) (by first | omega | (dsimp only; omega))) | exact Ent.of_eq (congrArg (AV.int _) (by first | omega | (dsimp only; omega)))) | refine And.intro ?_ ?_)) (by repeat' (first | exact trivial | (first | exact ObEnt.refl _ | exact ObEnt.junk | exact ObEnt.zero | exact ObEnt.push rfl rfl | exact ObEnt.pushRow rfl | exact ObEnt.len (by omega) | exact ObEnt.row (by repeat' (first | exact trivial | (first | exact Ent.refl _ | exact inc_ent (by omega) | exact Ent.nil rfl | exact Ent.of_eq (congrArg (AV.osl _ _ _) (by first | omega | (dsimp only; omega))) | exact Ent.of_eq (congrArg (AV.int _) (by first | omega | (dsimp only; omega)))) | refine And.intro ?_ ?_))) | refine And.intro ?_ ?_))) (fun x1 => ?_)
  try (have q1 := x1.2; dsimp only at q1)
  have e1 := wI (n := (x1.1 : Int) + 1) (by omega) (by omega)
  refine k_br (fun h2 => ?_) (fun h2 => ?_)
  · have g2 := cnd_dec_t h2
    refine k_req (by first | omega | (simp only [Int.toNat_natCast]; omega)) ?_
    refine k_dc (c2 (Int.toNat (↑(x1.1) : Int)) ((by simp only [Int.toNat_natCast]; omega))) ?_
    refine k_sc (c3 (Int.toNat (↑(x1.1) : Int)) ((by simp only [Int.toNat_natCast]; omega))) ?_
    refine k_br (fun h6 => ?_) (fun h6 => ?_)
    · have g6 := (cnd_and_t cnd_id_t (cnd_and_t cnd_beq_t (cnd_and_t cnd_beq_t (cnd_and_t cnd_beq_t (cnd_and_t cnd_beq_t (cnd_and_t cnd_id_t cnd_id_t)))))) h6
      try simp only [Int.toNat_natCast] at g6
      refine k_sc (c4 (Int.toNat (↑(x1.1) : Int)) ((by simp only [Int.toNat_natCast]; omega))) ?_
      exact k_out ((Ent.of_eq (by simp only [Int.toNat_natCast] at h6 ⊢; rw [show textF a = some _ from find_s (by omega) q1.2 (by rw [txt1, if_pos h6])]; rfl)))
    · have g6 := (cnd_and_f cnd_id_f (cnd_and_f cnd_beq_f (cnd_and_f cnd_beq_f (cnd_and_f cnd_beq_f (cnd_and_f cnd_beq_f (cnd_and_f cnd_id_f cnd_id_f)))))) h6
      try simp only [Int.toNat_natCast] at g6
      exact k_again (⟨x1.1 + 1, by omega, fun j hj => by rcases Nat.lt_succ_iff_lt_or_eq.1 hj with hj | hj; (· exact q1.2 j hj); (· rw [hj, txt1]; exact if_neg (by simp only [Int.toNat_natCast] at h6; rw [h6]; decide))⟩) (fun _ hs => hs.le (by repeat' (first | exact trivial | (first | exact Ent.refl _ | exact inc_ent (by omega) | exact Ent.nil rfl | exact Ent.of_eq (congrArg (AV.osl _ _ _) (by first | omega | (dsimp only; omega))) | exact Ent.of_eq (congrArg (AV.int _) (by first | omega | (dsimp only; omega)))) | refine And.intro ?_ ?_)) (by repeat' (first | exact trivial | (first | exact ObEnt.refl _ | exact ObEnt.junk | exact ObEnt.zero | exact ObEnt.push rfl rfl | exact ObEnt.pushRow rfl | exact ObEnt.len (by omega) | exact ObEnt.row (by repeat' (first | exact trivial | (first | exact Ent.refl _ | exact inc_ent (by omega) | exact Ent.nil rfl | exact Ent.of_eq (congrArg (AV.osl _ _ _) (by first | omega | (dsimp only; omega))) | exact Ent.of_eq (congrArg (AV.int _) (by first | omega | (dsimp only; omega)))) | refine And.intro ?_ ?_))) | refine And.intro ?_ ?_))) (by first | omega | (dsimp only; omega) | (simp; omega))
  · have g2 := cnd_dec_f h2
    exact k_out (Ent.of_eq (by rw [show textF a = none from find_n fun j hj => q1.2 j (by omega)]; rfl))


def parC (s : Str) : Cmd := if s.length > 100 then .zero else (readF (spl 32 s)).getD .zero
def parE (s : Str) : Int := if s.length > 100 then 5 else if (readF (spl 32 s)).isSome = true then 0 else 3
def prA (s : Str) : AV := .tup [.agg (parC s).cells, .int .i64 (parE s)]

theorem pr_1 {s : Str} (h : ((bs s).size : Int) > 100) : AV.tup [.agg [.int .i64 0, .int .i64 0, .int .i64 0, .int .i64 0, .bool false], .int .i64 5] = prA s := by
  rw [bs_size] at h
  have h : s.length > 100 := by omega
  unfold prA parC parE; rw [if_pos h, if_pos h]; rfl
theorem pr_2 {s : Str} (h : ¬ ((bs s).size : Int) > 100) (h2 : (readF (spl 32 s)).isSome = false) : AV.tup [.agg [.int .i64 0, .int .i64 0, .int .i64 0, .int .i64 0, .bool false], .int .i64 3] = prA s := by
  rw [bs_size] at h
  have h : ¬ s.length > 100 := by omega
  unfold prA parC parE; rw [if_neg h, if_neg h, h2]
  cases e : readF (spl 32 s) with
  | none => rfl
  | some a => rw [e] at h2; cases h2
theorem pr_3 {s : Str} (h : ¬ ((bs s).size : Int) > 100) (h2 : (readF (spl 32 s)).isSome = true) : AV.tup [.agg (Cmd.cells ((readF (spl 32 s)).getD .zero)), .int .i64 0] = prA s := by
  rw [bs_size] at h
  have h : ¬ s.length > 100 := by omega
  unfold prA parC parE; rw [if_neg h, if_neg h, h2]; rfl
theorem parse_c (m : GP) (s : Str) (hs : s.length < 4294967281) : Pure Tryz.prog (gl0 m) 49 [.str (bs s)] (prA s) := by
  have c1 := split_c m 32 s hs
  have k := spl_len 32 s
  have c2 := read_c m (spl 32 s) (fun w hw => Nat.le_trans (k.2 w hw) (by omega)) (by omega)
  refine pure_sk (own := ow0) Tryz.func49 (by kernel_rfl) mixed (by kernel_rfl)
    (.br (decide ((↑(ByteArray.size (bs s)) : Int) > (100 : Int))) (.out (AV.tup [AV.agg [Zi 0, Zi 0, Zi 0, Zi 0, AV.bool false], Zi 5]) [] (prA s) []) (.dc (true) 46 ([AV.str (bs s), AV.str { data := #[(32 : UInt8)] }]) (AV.isl (1 : Nat) (List.length (spl (32 : UInt8) s)) fun (i x : Nat) => AV.str (bs (List.getD (spl (32 : UInt8) s) i []))) (.sc (true) 82 ([AV.isl (1) (List.length (spl (32 : UInt8) s)) fun (i x : Nat) => AV.str (bs (List.getD (spl (32 : UInt8) s) i []))]) (rdA (readF (spl (32 : UInt8) s))) (.br (!Option.isSome (readF (spl (32 : UInt8) s))) (.out (AV.tup [AV.agg [Zi 0, Zi 0, Zi 0, Zi 0, AV.bool false], Zi 3]) [] (prA s) []) (.out (AV.tup [AV.agg (Cmd.cells (Option.getD (readF (spl (32 : UInt8) s)) Cmd.zero)), Zi 0]) [] (prA s) [])))))
    (by kernel_rfl) ?_
  refine k_br (fun h0 => ?_) (fun h0 => ?_)
  · have g0 := cnd_dec_t h0
    exact k_out (Ent.of_eq (pr_1 g0))
  · have g0 := cnd_dec_f h0
    refine k_dc (c1) ?_
    refine k_sc (c2) ?_
    refine k_br (fun h4 => ?_) (fun h4 => ?_)
    · have g4 := (cnd_not_t cnd_id_f) h4
      exact k_out (Ent.of_eq (pr_2 g0 g4))
    · have g4 := (cnd_not_f cnd_id_t) h4
      exact k_out (Ent.of_eq (pr_3 g0 g4))





theorem par_lin {a : Cmd} {ws : List Str} (h : Lin a ws) : prA (joinS ws) = .tup [.agg a.cells, .int .i64 0] := by
  have hl := lin_len h
  unfold prA parC parE
  rw [if_neg (by omega), if_neg (by omega), lin_spl h, readF_iff.2 h]; rfl

theorem awake_t (m : GP) : Pure Tryz.prog (gl0 m) 50 [.agg [.int .i64 4, .int .i64 2, .int .i64 1, .int .i64 0, .bool true]] (.tup [.str (bs [100, 101, 112, 111, 115, 105, 116, 32, 104, 111, 108, 100, 101, 114, 32, 50]), .int .i64 0]) := by
  have L2 : Lin ⟨4, 2, 1, 0, true⟩ [wDeposit, wHolder, itoa 2] := .holder ⟨by decide, by decide⟩
  have e2 : itoa 2 = [50] := itoa_d1 (n := 2) (by decide)
  have p2 := lin_text L2
  rw [e2] at p2
  have c2 := text_c m ⟨4, 2, 1, 0, true⟩ (lin_R L2)
  rw [p2, show joinS [wDeposit, wHolder, [50]] = [100, 101, 112, 111, 115, 105, 116, 32, 104, 111, 108, 100, 101, 114, 32, 50] by decide] at c2
  exact c2

theorem awake_c (m : GP) : Pure Tryz.prog (gl0 m) 18 [] (.bool true) := by
  have L1 : Lin ⟨2, 0, 1, 25, true⟩ [wPay, itoa 0, itoa 1, itoa 25] := .pay ⟨by decide, by decide⟩ ⟨by decide, by decide⟩ ⟨by decide, by decide⟩
  have e0 : itoa 0 = [48] := itoa_d1 (n := 0) (by decide)
  have e1 : itoa 1 = [49] := itoa_d1 (n := 1) (by decide)
  have e25 : itoa 25 = [50, 53] := itoa_d2 (n := 25) (by decide) (by decide)
  have p1 := par_lin L1
  rw [e0, e1, e25] at p1
  have c1 := parse_c m [112, 97, 121, 32, 48, 32, 49, 32, 50, 53] (by decide)
  rw [show [112, 97, 121, 32, 48, 32, 49, 32, 50, 53] = joinS [wPay, [48], [49], [50, 53]] by decide, p1] at c1
  rw [show joinS [wPay, [48], [49], [50, 53]] = [112, 97, 121, 32, 48, 32, 49, 32, 50, 53] by decide] at c1
  have c3 := awake_t m
  refine pure_sk (own := ow0) Tryz.func18 (by kernel_rfl) mixed (by kernel_rfl)
    (.sc (true) 49 ([AV.str { data := #[(112 : UInt8), (97 : UInt8), (121 : UInt8), (32 : UInt8), (48 : UInt8), (32 : UInt8), (49 : UInt8), (32 : UInt8), (50 : UInt8), (53 : UInt8)] }]) (AV.tup [AV.agg (Cmd.cells { kind := (2 : Int), who := (0 : Int), whom := (1 : Int), amount := (25 : Int), honest := true }), Zi 0]) (.sc (true) 50 ([AV.agg [Zi 4, Zi 2, Zi 1, Zi 0, AV.bool true]]) (AV.tup [AV.str (bs [(100 : UInt8), (101 : UInt8), (112 : UInt8), (111 : UInt8), (115 : UInt8), (105 : UInt8), (116 : UInt8), (32 : UInt8), (104 : UInt8), (111 : UInt8), (108 : UInt8), (100 : UInt8), (101 : UInt8), (114 : UInt8), (32 : UInt8), (50 : UInt8)]), Zi 0]) (.out (AV.bool true) [] (AV.bool true) [])))
    (by kernel_rfl) ?_
  refine k_sc (c1) ?_
  refine k_sc (c3) ?_
  exact k_out (Ent.of_eq (by first | rfl | simp_all))

end Go.Proofs.YtbmdmoknnlhdoaaGreatDoor.L

namespace Go.Sp
open Go Go.Am Go.Lib
def blk (t : Bool) : Str := if t = true then [32, 9] else [32, 32]
theorem dec_step {n : Nat} (h : 10 ≤ n) : decDigits n = decDigits (n / 10) ++ decDigits (n % 10) := by
  rw [decDigits_one (show n % 10 < 10 by omega)]
  conv => lhs; rw [decDigits, dif_neg (show ¬ n < 10 by omega)]
theorem tdiv_n (n k : Nat) : Int.tdiv (n : Int) (k : Int) = ((n / k : Nat) : Int) := by
  rw [Int.tdiv_eq_ediv_of_nonneg (Int.natCast_nonneg n)]; rfl
theorem tmod_n (n k : Nat) : Int.tmod (n : Int) (k : Int) = ((n % k : Nat) : Int) := by
  rw [Int.tmod_eq_emod_of_nonneg (Int.natCast_nonneg n)]; rfl
theorem dig_str {n : Nat} (h : n < 10) : strOfNums [IntKind.wrap .u8 (IntKind.wrap .i64 (48 + (n : Int)))] = bs (decDigits n) := by
  have e : IntKind.wrap .u8 (48 + (n : Int)) = ((48 + n : Nat) : Int) := by
    unfold IntKind.wrap; simp [IntKind.signed, IntKind.bits]; omega
  rw [wI (by omega) (by omega), e, decDigits_one h]; rfl
theorem dec_len : ∀ (k u : Nat), u < 10 ^ (k + 1) → (decDigits u).length ≤ k + 1
  | 0, u, h => by rw [decDigits_one (by omega)]; exact Nat.le_refl _
  | k + 1, u, h => by
    by_cases h1 : u < 10
    · rw [decDigits_one h1]; simp
    · rw [dec_step (by omega), List.length_append, decDigits_one (show u % 10 < 10 by omega)]
      have := dec_len k (u / 10) (by rw [Nat.pow_succ] at h; omega)
      simp; omega
theorem dec_len100 (u : Nat) (h : u < 9223372036854775807) : (decDigits u).length ≤ 100 := Nat.le_trans (dec_len 18 u (by omega)) (by decide)
theorem nDigits_le {u : Nat} (h : u < 9223372036854775807) : nDigits u ≤ 100 := by
  have k := dec_len100 u h
  rwa [decDigits_length] at k
theorem numsK_le (a : Cmd) : (numsK a).length ≤ 3 := by
  unfold numsK
  repeat' split
  all_goals simp
def txtN (a : Cmd) (x : Nat) : Str := wordK a ++ ((numsK a).take x).flatMap fun n => 32 :: itoa n
theorem txtN_zero (a : Cmd) : txtN a 0 = wordK a := List.append_nil _
theorem txtN_succ {a : Cmd} {x : Nat} (h : x < (numsK a).length) : txtN a (x + 1) = txtN a x ++ (32 :: itoa ((numsK a).getD x 0)) := by
  unfold txtN
  rw [List.take_add_one, List.getElem?_eq_getElem h, List.getD_eq_getElem?_getD, List.getElem?_eq_getElem h, List.flatMap_append, List.append_assoc]
  simp
theorem txtN_end {a : Cmd} {x : Nat} (h : (numsK a).length ≤ x) : txtN a x = textR a := by
  unfold txtN textR; rw [List.take_of_length_le h]
theorem itoaN {n : Int} (h : 0 ≤ n) : itoa n = decDigits n.toNat := by
  obtain ⟨k, rfl⟩ := Int.eq_ofNat_of_zero_le h
  exact itoa_nonneg k
theorem itoa_l13 {n : Int} (h : 0 ≤ n ∧ n ≤ 1099511627776) : (itoa n).length ≤ 13 := by
  rw [itoaN h.1, decDigits_length]; exact nd_le (by omega)
def NumOk (a : Cmd) : Prop := ∀ j, j < (numsK a).length → 0 ≤ (numsK a).getD j 0 ∧ (numsK a).getD j 0 ≤ 1099511627776
theorem wordK_len (a : Cmd) : (wordK a).length ≤ 30 := by
  unfold wordK
  repeat' split
  all_goals decide
theorem txtN_le {a : Cmd} (ha : NumOk a) : ∀ x, x ≤ (numsK a).length → (txtN a x).length ≤ 30 + 14 * x
  | 0, _ => by rw [txtN_zero]; exact wordK_len a
  | x + 1, h => by
    have k := itoa_l13 (ha x h)
    have ih := txtN_le ha x (by omega)
    rw [txtN_succ h, List.length_append, List.length_cons]; omega
theorem txt_app {a : Cmd} {x : Nat} (h : x < (numsK a).length) : bs (txtN a x) ++ ⟨#[32]⟩ ++ bs (itoa ((numsK a).getD x 0)) = bs (txtN a (x + 1)) := by
  show bs _ ++ bs [32] ++ bs _ = _
  rw [bs_app, bs_app, txtN_succ h, List.append_assoc]; rfl
theorem wr_no1 {a : Cmd} (h : wordK a = [] ∨ ¬ a.honest = (a.kind != 5)) : wrB a = false := by
  unfold wrB
  rcases h with h | h
  · rw [h]; rfl
  · rw [beq_false_of_ne h, Bool.and_false]; rfl
theorem wr_no2 {a : Cmd} {x : Nat} (hx : x < (numsK a).length) (h : (numsK a).getD x 0 < 0 ∨ (numsK a).getD x 0 > 1099511627776) : wrB a = false := by
  unfold wrB
  have : (numsK a).all (fun n => decide (0 ≤ n) && decide (n ≤ 1099511627776)) = false := by
    refine List.all_eq_false.2 ⟨(numsK a)[x], List.getElem_mem hx, ?_⟩
    rw [List.getD_eq_getElem?_getD, List.getElem?_eq_getElem hx] at h
    have h : (numsK a)[x] < 0 ∨ (numsK a)[x] > 1099511627776 := h
    simp only [Bool.and_eq_true, decide_eq_true_eq]; omega
  rw [this, Bool.false_and, Bool.and_false]
theorem wr_y {a : Cmd} {x : Nat} (h : ¬ wordK a = [] ∧ a.honest = (a.kind != 5)) (hx : (numsK a).length ≤ x) (hd : ∀ j, j < x → j < (numsK a).length → 0 ≤ (numsK a).getD j 0 ∧ (numsK a).getD j 0 ≤ 1099511627776) : wrB a = restB a := by
  unfold wrB
  have : (numsK a).all (fun n => decide (0 ≤ n) && decide (n ≤ 1099511627776)) = true := List.all_eq_true.2 fun n hn => by
    obtain ⟨j, hj, rfl⟩ := List.getElem_of_mem hn
    have := hd j (by omega) hj
    rw [List.getD_eq_getElem?_getD, List.getElem?_eq_getElem hj] at this
    have h : 0 ≤ (numsK a)[j] ∧ (numsK a)[j] ≤ 1099511627776 := this
    simp only [Bool.and_eq_true, decide_eq_true_eq]; exact h
  rw [this, Bool.true_and, h.2, beq_self_eq_true, Bool.and_true]
  have : (wordK a != []) = true := by simpa using h.1
  rw [this, Bool.true_and]
theorem z1 (a : UInt8) : (ByteArray.mk #[a]).size = 1 := rfl
end Go.Sp
