/- Part of the proof: TryzShelfP, EnRound, EnForce, EnBld, WZH0, ObL, SpPay, Sha, Tag, Enc, Item, Nod, Inv, Exp, Exp2, Nam, WZH1, WZ7, WZ8, WZ9. -/
import Derived.Shelf.Strings.Builder1
import Derived.Shelf.Strings.Builder2
import Derived.Shelf.Strings.OnBuilder
import Derived.Shelf.Small.Bits
import Derived.Shelf.Small.Wraps
import Derived.Shelf.Strings.BuilderF
import Derived.Shelf.Strings.BuilderK
import Derived.Shelf.Strconv.Atoi
import Derived.Shelf.Strconv.Itoa0
import Derived.Shelf.Strconv.Itoa1
import Derived.Shelf.LaysM
import Derived.Shelf.Strconv.Itoa2
import Derived.Shelf.Strconv.Itoa3
import Derived.Shelf.Strconv.AtoiErrFast
import Derived.Shelf.Strconv.ParseIntEmpty
import Derived.Shelf.Strconv.AtoiFail
import Derived.Shelf.Strconv.Clone
import Derived.Shelf.Strconv.SyntaxError
import Derived.Shelf.LaysC
import Derived.Shelf.Strconv.ToError
import Derived.Shelf.Strconv.Lower
import Derived.Shelf.Strconv.ParseUint10
import Derived.Shelf.Strconv.ParseUint10Empty
import Derived.Shelf.Strconv.ParseUint10Any
import Derived.Shelf.Strconv.ParseInt10
import Derived.Shelf.Strconv.AtoiLong
import Derived.Shelf.Strconv.AtoiInnerAll
import Derived.Shelf.Strconv.RangeError
import Derived.Shelf.Strconv.ToErrorRange
import Derived.Shelf.Strconv.AtoiAll
import Derived.Shelf.Strconv.ErrVarAll
import Derived.Shelf.Strings.Search1
import Derived.Shelf.Strings.Search2
import Derived.Shelf.Strings.Search3
import Derived.Shelf.Strings.Cut
import Derived.Shelf.Strings.Count
import Derived.Shelf.Strings.Shaped
import Derived.Shelf.Strings.Prefix
import Derived.Shelf.Strings.Split
import Derived.Shelf.Strings.Fields
import Derived.Shelf.Strings.SplitShaped
import Derived.Shelf.Unicode.Latin
import Derived.Shelf.Bits.Mul64
import Derived.Shelf.Unicode.DecodeSlow
import Derived.Shelf.Unicode.Is16White
import Derived.Shelf.Unicode.IsSpaceAny
import Derived.Shelf.Unicode.Is16Any
import Derived.Shelf.Unicode.Is32Any
import Derived.Shelf.Unicode.ExclAny
import Derived.Test.YtbmdmoknnlhdoaaGreatDoorProg
import Derived.Test.YtbmdmoknnlhdoaaGreatDoorM2
import Derived.OrdersIn
import Derived.Test.YtbmdmoknnlhdoaaGreatDoorM3
namespace Go.Proofs
open Go.Shelf
def Tryz.lays169_ren : Go.Shelf.Ren := ⟨fun | 169 => 36 | n => n, fun | 70 => 92 | 9 => 9 | 0 => 0 | 72 => 95 | 37 => 93 | 127 => 131 | 3 => 3 | 5 => 5 | n => n, fun | n => n⟩
theorem Tryz.lays169 : Go.Proofs.Lays.n169 Tryz.prog Tryz.lays169_ren := {
  mixed := by kernel_rfl
  f169 := Tryz.func36.trans (congrArg some (by kernel_rfl))
  t0 := Tryz.underlying0
  a0 := Tryz.isAgg0
  z0 := Tryz.sizeOf0
  v0 := Tryz.zeroValue0
  t3 := Tryz.underlying3
  a3 := Tryz.isAgg3
  z3 := Tryz.sizeOf3
  v3 := Tryz.zeroValue3
  t9 := Tryz.underlying9
  a9 := Tryz.isAgg9
  z9 := Tryz.sizeOf9
  v9 := Tryz.zeroValue9
  t37 := Tryz.underlying93
  a37 := Tryz.isAgg93
  z37 := Tryz.sizeOf93
  v37 := Tryz.zeroValue93
  t70 := Tryz.underlying92
  a70 := Tryz.isAgg92
  z70 := Tryz.sizeOf92
  v70 := Tryz.zeroValue92
  t72 := Tryz.underlying95
  a72 := Tryz.isAgg95
  z72 := Tryz.sizeOf95
  v72 := Tryz.zeroValue95
  t127 := Tryz.underlying131
  a127 := Tryz.isAgg131
  z127 := Tryz.sizeOf131
  v127 := Tryz.zeroValue131 }
theorem Tryz.Builder_Extra_169 : Builder.Extra Tryz.prog Tryz.lays169_ren := {
  sizeBuilder := by kernel_rfl
  liesBuilder := by kernel_rfl
  t5 := Tryz.underlying5
  a5 := Tryz.isAgg5
  z5 := Tryz.sizeOf5
  v5 := Tryz.zeroValue5
  infoByte := by kernel_rfl
  cellsByte := by kernel_rfl
  sizeByte := by kernel_rfl
  neB5 := by decide }
def Tryz.lays156_ren : Go.Shelf.Ren := ⟨fun | 156 => 70 | 165 => 115 | 166 => 65 | 169 => 36 | 240 => 69 | 241 => 158 | 276 => 114 | 277 => 196 | n => n, fun | 31 => 47 | 9 => 9 | 3 => 3 | 4 => 4 | 0 => 0 | 20 => 20 | 72 => 95 | 76 => 113 | 70 => 92 | 37 => 93 | 75 => 97 | 127 => 131 | 164 => 176 | 5 => 5 | 80 => 101 | n => n, fun | n => n⟩
theorem Tryz.lays156 : Go.Proofs.Lays.n156 Tryz.prog Tryz.lays156_ren := {
  mixed := by kernel_rfl
  f156 := Tryz.func70.trans (congrArg some (by kernel_rfl))
  f165 := Tryz.func115.trans (congrArg some (by kernel_rfl))
  f166 := Tryz.func65.trans (congrArg some (by kernel_rfl))
  f169 := Tryz.func36.trans (congrArg some (by kernel_rfl))
  f240 := Tryz.func69.trans (congrArg some (by kernel_rfl))
  f241 := Tryz.func158.trans (congrArg some (by kernel_rfl))
  f276 := Tryz.func114.trans (congrArg some (by kernel_rfl))
  f277 := Tryz.func196.trans (congrArg some (by kernel_rfl))
  t0 := Tryz.underlying0
  a0 := Tryz.isAgg0
  z0 := Tryz.sizeOf0
  v0 := Tryz.zeroValue0
  t3 := Tryz.underlying3
  a3 := Tryz.isAgg3
  z3 := Tryz.sizeOf3
  v3 := Tryz.zeroValue3
  t4 := Tryz.underlying4
  a4 := Tryz.isAgg4
  z4 := Tryz.sizeOf4
  v4 := Tryz.zeroValue4
  t9 := Tryz.underlying9
  a9 := Tryz.isAgg9
  z9 := Tryz.sizeOf9
  v9 := Tryz.zeroValue9
  t20 := Tryz.underlying20
  a20 := Tryz.isAgg20
  z20 := Tryz.sizeOf20
  v20 := Tryz.zeroValue20
  t31 := Tryz.underlying47
  a31 := Tryz.isAgg47
  z31 := Tryz.sizeOf47
  v31 := Tryz.zeroValue47
  t37 := Tryz.underlying93
  a37 := Tryz.isAgg93
  z37 := Tryz.sizeOf93
  v37 := Tryz.zeroValue93
  t70 := Tryz.underlying92
  a70 := Tryz.isAgg92
  z70 := Tryz.sizeOf92
  v70 := Tryz.zeroValue92
  t72 := Tryz.underlying95
  a72 := Tryz.isAgg95
  z72 := Tryz.sizeOf95
  v72 := Tryz.zeroValue95
  t75 := Tryz.underlying97
  a75 := Tryz.isAgg97
  z75 := Tryz.sizeOf97
  v75 := Tryz.zeroValue97
  t76 := Tryz.underlying113
  a76 := Tryz.isAgg113
  z76 := Tryz.sizeOf113
  v76 := Tryz.zeroValue113
  t127 := Tryz.underlying131
  a127 := Tryz.isAgg131
  z127 := Tryz.sizeOf131
  v127 := Tryz.zeroValue131
  t164 := Tryz.underlying176
  a164 := Tryz.isAgg176
  z164 := Tryz.sizeOf176
  v164 := Tryz.zeroValue176 }
theorem Tryz.Builder_Extra_156 : Builder.Extra Tryz.prog Tryz.lays156_ren := {
  sizeBuilder := by kernel_rfl
  liesBuilder := by kernel_rfl
  t5 := Tryz.underlying5
  a5 := Tryz.isAgg5
  z5 := Tryz.sizeOf5
  v5 := Tryz.zeroValue5
  infoByte := by kernel_rfl
  cellsByte := by kernel_rfl
  sizeByte := by kernel_rfl
  neB5 := by decide }
open Go.RowKit in
theorem Tryz.strings_Join_none (a : Option Addr) (c : Nat) (sep : ByteArray) (w : World) :
    Calls Tryz.prog 70 #[.slice a 0 c, .string sep] w fun e w' => e = .returned (.string ⟨#[]⟩) ∧ w' = w := Any.strings_Join_none Tryz.lays156 Tryz.Builder_Extra_156 a c sep w
open Go.RowKit in
theorem Tryz.strings_Join (bk o c : Nat) (xs : List ByteArray) (sep : ByteArray) (w : World) (hcells : ∀ (j : Nat) x, xs[j]? = some x → w.cell? ⟨bk, o + j, none⟩ = some (.string x)) (hbk : bk < w.heap.size) (hN : xs.length ≤ 140737488355328) (hcap : xs.length ≤ c) (hlen : (Lib.join (xs.map (·.data.toList)) sep.data.toList).length ≤ 140737488355328) :
    Calls Tryz.prog 70 #[.slice (some ⟨bk, o, none⟩) xs.length c, .string sep] w fun e w' => e = .returned (.string ⟨(Lib.join (xs.map (·.data.toList)) sep.data.toList).toArray⟩) ∧ Below w.heap.size w w' := Any.strings_Join Tryz.lays156 Tryz.Builder_Extra_156 bk o c xs sep w hcells hbk hN hcap hlen
open Go.RowKit in
theorem Tryz.Builder_String_any_k (B b : Nat) (l : List UInt8) (w : World) (h : Lib.IsBuilderF 95 5 B b (Lib.byteCells l) w) (hBw : B ≤ w.heap.size) :
    Calls Tryz.prog 36 #[.pointer (some ⟨b, 0, none⟩)] w fun e w' => e = .returned (.string ⟨l.toArray⟩) ∧ (Lib.IsBuilderF 95 5 B b (Lib.byteCells l) w' ∧ Below B w w' ∧ Lib.OthersKept 5 (some b) w w') := Any.Builder_String_any_k Tryz.lays169 Tryz.Builder_Extra_169 B b l w h hBw
def Tryz.laysM171_ren : Go.Shelf.Ren := ⟨fun | 171 => 35 | 243 => 71 | 246 => 116 | 283 => 159 | 284 => 160 | 285 => 161 | 286 => 162 | 129 => 198 | 317 => 197 | 318 => 199 | 319 => 200 | 320 => 201 | 337 => 232 | 338 => 233 | n => n, fun | 3 => 3 | 9 => 9 | 2 => 2 | 4 => 4 | 171 => 214 | 0 => 0 | 53 => 206 | 37 => 93 | 5 => 5 | 173 => 217 | 212 => 254 | 51 => 234 | 20 => 20 | 213 => 255 | 46 => 99 | 232 => 103 | 233 => 311 | n => n, fun | 17 => 7 | 18 => 12 | 19 => 13 | n => n⟩
theorem Tryz.laysM171 : Go.Proofs.LaysM.n171 Tryz.prog Tryz.laysM171_ren := {
  mixed := by kernel_rfl
  f129 := Tryz.func198.trans (congrArg some (by kernel_rfl))
  f171 := Tryz.func35.trans (congrArg some (by kernel_rfl))
  f243 := Tryz.func71.trans (congrArg some (by kernel_rfl))
  f246 := Tryz.func116.trans (congrArg some (by kernel_rfl))
  f283 := Tryz.func159.trans (congrArg some (by kernel_rfl))
  f284 := Tryz.func160.trans (congrArg some (by kernel_rfl))
  f285 := Tryz.func161.trans (congrArg some (by kernel_rfl))
  f286 := Tryz.func162.trans (congrArg some (by kernel_rfl))
  f317 := Tryz.func197.trans (congrArg some (by kernel_rfl))
  f318 := Tryz.func199.trans (congrArg some (by kernel_rfl))
  f319 := Tryz.func200.trans (congrArg some (by kernel_rfl))
  f320 := Tryz.func201.trans (congrArg some (by kernel_rfl))
  f337 := Tryz.func232.trans (congrArg some (by kernel_rfl))
  f338 := Tryz.func233.trans (congrArg some (by kernel_rfl))
  t0 := Tryz.underlying0
  a0 := Tryz.isAgg0
  z0 := Tryz.sizeOf0
  v0 := Tryz.zeroValue0
  t2 := Tryz.underlying2
  a2 := Tryz.isAgg2
  z2 := Tryz.sizeOf2
  v2 := Tryz.zeroValue2
  t3 := Tryz.underlying3
  a3 := Tryz.isAgg3
  z3 := Tryz.sizeOf3
  v3 := Tryz.zeroValue3
  t4 := Tryz.underlying4
  a4 := Tryz.isAgg4
  z4 := Tryz.sizeOf4
  v4 := Tryz.zeroValue4
  t5 := Tryz.underlying5
  a5 := Tryz.isAgg5
  z5 := Tryz.sizeOf5
  v5 := Tryz.zeroValue5
  t9 := Tryz.underlying9
  a9 := Tryz.isAgg9
  z9 := Tryz.sizeOf9
  v9 := Tryz.zeroValue9
  t20 := Tryz.underlying20
  a20 := Tryz.isAgg20
  z20 := Tryz.sizeOf20
  v20 := Tryz.zeroValue20
  t37 := Tryz.underlying93
  a37 := Tryz.isAgg93
  z37 := Tryz.sizeOf93
  v37 := Tryz.zeroValue93
  t46 := Tryz.underlying99
  a46 := Tryz.isAgg99
  z46 := Tryz.sizeOf99
  v46 := Tryz.zeroValue99
  t51 := Tryz.underlying234
  a51 := Tryz.isAgg234
  z51 := Tryz.sizeOf234
  v51 := Tryz.zeroValue234
  t53 := Tryz.underlying206
  a53 := Tryz.isAgg206
  z53 := Tryz.sizeOf206
  v53 := Tryz.zeroValue206
  t171 := Tryz.underlying214
  a171 := Tryz.isAgg214
  z171 := Tryz.sizeOf214
  v171 := Tryz.zeroValue214
  t173 := Tryz.underlying217
  a173 := Tryz.isAgg217
  z173 := Tryz.sizeOf217
  v173 := Tryz.zeroValue217
  t212 := Tryz.underlying254
  a212 := Tryz.isAgg254
  z212 := Tryz.sizeOf254
  v212 := Tryz.zeroValue254
  t213 := Tryz.underlying255
  a213 := Tryz.isAgg255
  z213 := Tryz.sizeOf255
  t232 := Tryz.underlying103
  a232 := Tryz.isAgg103
  z232 := Tryz.sizeOf103
  v232 := Tryz.zeroValue103
  t233 := Tryz.underlying311
  a233 := Tryz.isAgg311
  z233 := Tryz.sizeOf311
  v233 := Tryz.zeroValue311
  g17 := by kernel_rfl
  g18 := by kernel_rfl
  g19 := by kernel_rfl
  i0 := by kernel_rfl
  i2 := by kernel_rfl
  i3 := by kernel_rfl
  i4 := by kernel_rfl
  i5 := by kernel_rfl
  i9 := by kernel_rfl
  i20 := by kernel_rfl
  i37 := by kernel_rfl
  i46 := by kernel_rfl
  i51 := by kernel_rfl
  i53 := by kernel_rfl
  i171 := by kernel_rfl
  i173 := by kernel_rfl
  i212 := by kernel_rfl
  i232 := by kernel_rfl
  i233 := by kernel_rfl
  m17 := by kernel_rfl
  m18 := by kernel_rfl
  m19 := by kernel_rfl }
open Go.RowKit Go.Sort Go.Lib in
theorem Tryz.strconv_Itoa (n : Int) (h0 : -9223372036854775808 ≤ n) (h1 : n ≤ 9223372036854775807) (w : World) (htab : Lib.TabIs Tryz.prog w "internal/strconv.uint64pow10" .u64 Lib.pow10Tab) :
    Calls Tryz.prog 35 #[.int .i64 n] w fun e w' => e = .returned (.string ⟨(Lib.itoa n).toArray⟩) ∧ ∃ k os, w' = grow (w.drewN k) os := Any.strconv_Itoa Tryz.laysM171 n h0 h1 w htab
end Go.Proofs

namespace Go.Am
open Go.RowKit

def keepsOps (pins : List Nat) (ops : Array Oper) : Bool :=
  ops.toList.all fun o => (match o.op with | .defer _ => false | .mapUpdate .. => false | _ => true) && (match o.dst with | some d => !memN pins d | none => true)
def keepsC (pins : List Nat) : Code → Bool
  | .skip => true
  | .region _ ops _ => keepsOps pins ops
  | .seq x y => keepsC pins x && keepsC pins y
  | .cond _ x y => keepsC pins x && keepsC pins y
  | .block _ x => keepsC pins x
  | _ => false

def PinIn (pins : List Nat) (a0 a : Act) : Prop := ∀ n, n ∈ pins → a.tmps.getD n undef = a0.tmps.getD n undef

section
def Open (F : Fence) : Prop := F = Fence.wide ∨ ∃ l, F = Fence.wide.inRound l
theorem Open.calls {F : Fence} (h : Open F) {n : Nat} {P : Program} {f : FuncId} {args : Array Value} {w : World} {R : Ending → World → Prop} (hc : Calls P f args w R) : CallsIn F n P f args w R := by
  rcases h with rfl | ⟨l, rfl⟩
  · grind [callsIn_wide]
  grind [CallsIn.inRound,callsIn_wide]
theorem Open.fn {F : Fence} (h : Open F) (f : FuncId) : F.fn f := by rcases h with rfl | ⟨l, rfl⟩ <;> trivial
theorem Open.deep {F : Fence} (h : Open F) : ¬ F.depth.isSome = true := by rcases h with rfl | ⟨l, rfl⟩ <;> (intro h; cases h)
theorem Open.steps {F : Fence} (h : Open F) {P : Program} {m m' : Machine} (hs : Steps P m m') : StepsIn (Machine.fenced P F) P m m' := by rcases h with rfl | ⟨l, rfl⟩ <;> exact stepsIn_wide.2 hs

variable {P : Program} {ops : Array Oper} {Q Q' : Exit → Act → World → Prop} {F : Fence} {n : Nat} {pins : List Nat} {a0 : Act}

theorem upon_in (hF : Open F) {o : Oper} {a : Act} {K K' : Act → World → Prop} (hp : ∀ ch a w, ¬ Q (.panic ch) a w) (hO : ¬ LetsOut Q) (hK : ∀ a' w', (∃ v, a'.tmps = (a.put o.dst v).tmps) → K a' w' → K' a' w') : ∀ (r : Result Next), o.upon P a K Q r → o.uponIn F n P a K' Q' r := by
  intro r h
  cases r with
  | ok x w' =>
    cases x <;> simp only [Oper.upon] at h <;> simp only [Oper.uponIn]
    case value v => grind
    case skip => grind
    case defer d => exact hK _ _ ⟨undef, by cases o.dst <;> rfl⟩ h
    case enter f args =>
      refine ⟨fun h => (hF.deep h).elim, hF.calls (h.mono fun e w'' he => ?_)⟩
      grind
    case row row args =>
      refine ⟨fun h => (hF.deep h).elim, fun c cs _ => ?_⟩
      obtain ⟨v, w'', hr, hs⟩ := h c cs
      exact ⟨v, w'', hK _ _ ⟨v, rfl⟩ hr, hF.steps hs⟩
  | halt x w' =>
    cases x <;> simp only [Oper.upon] at h
    grind

theorem op_in (hF : Open F) {o : Oper} {a : Act} {w : World} {K K' : Act → World → Prop} (hd : ∀ c, o.op ≠ .defer c) (hp : ∀ ch a w, ¬ Q (.panic ch) a w) (hO : ¬ LetsOut Q) (hK : ∀ a' w', (∃ v, a'.tmps = (a.put o.dst v).tmps) → K a' w' → K' a' w')
    (h : o.wp P a w K Q) : o.wpIn F n P a w K' Q' := by
  refine ⟨fun f _ => hF.fn f, ?_⟩
  rw [Oper.semAt_eq _ _ _ hd]
  exact upon_in hF hp hO hK _ h

theorem keeps_upd {pins : List Nat} {ops : Array Oper} (hk : keepsOps pins ops = true) : hasUpd ops = false := by
  unfold hasUpd
  rw [List.any_eq_false]
  intro o ho
  have := List.all_eq_true.1 hk o ho
  grind

theorem keeps_at {i : Nat} {o : Oper} (hk : keepsOps pins ops = true) (ho : ops[i]? = some o) : (∀ c, o.op ≠ .defer c) ∧ ∀ n, n ∈ pins → o.dst ≠ some n := by
  have hm : o ∈ ops.toList := by grind
  have := List.all_eq_true.1 hk o hm
  rw [Bool.and_eq_true] at this
  grind [Bool.not_eq_true',memN_iff]

theorem pinned_put {o : Oper} {a a' : Act} {v : Value} (hd : ∀ n, n ∈ pins → o.dst ≠ some n) (h : PinIn pins a0 a) (e : a'.tmps = (a.put o.dst v).tmps) : PinIn pins a0 a' := fun n hn => by
  rw [e, ← h n hn]
  cases hdd : o.dst with
  | none => rfl
  | some d => grind [getD_put_ne]

theorem ops_in (hF : Open F) (hk : keepsOps pins ops = true) (hp : ∀ ch a w, ¬ Q (.panic ch) a w) (hO : ¬ LetsOut Q) : ∀ (is : List Nat) (a : Act) (w : World), wpOps P ops Q is a w → PinIn pins a0 a →
    wpOpsIn F n P ops (fun e a w => Q e a w ∧ PinIn pins a0 a) is a w := by
  intro is
  induction is with
  | nil => intro a w h hpin; exact ⟨h, hpin⟩
  | cons i rest ih =>
    intro a w h hpin
    simp only [wpOps] at h
    simp only [wpOpsIn]
    cases ho : ops[i]? with
    | none => grind
    | some o =>
      simp only [ho] at h ⊢
      obtain ⟨h1, h2⟩ := keeps_at hk ho
      by_cases hw : Region.wanted o (yielded ops a.tmps) = true
      · simp only [hw, if_true] at h ⊢
        grind [op_in,pinned_put]
      · simp only [hw, if_false, Bool.false_eq_true] at h ⊢
        exact ⟨fun f _ => hF.fn f, ih _ _ h (pinned_put h2 hpin rfl)⟩

theorem any_in (hF : Open F) (hk : keepsOps pins ops = true) (hp : ∀ ch a w, ¬ Q (.panic ch) a w) (hO : ¬ LetsOut Q) {md : Region.Mode} : ∀ (fuel : Nat) (listed : Array Bool) (a : Act) (w : World), wpAny P md ops Q fuel listed a w → PinIn pins a0 a →
    wpAnyIn F n P md ops (fun e a w => Q e a w ∧ PinIn pins a0 a) fuel listed a w := by
  intro fuel
  induction fuel with
  | zero => intro listed a w h hpin; exact ⟨h.1, h.2, hpin⟩
  | succ fuel ih =>
    intro listed a w h hpin
    refine ⟨fun hr => ⟨h.1 hr, hpin⟩, fun i hi => ?_⟩
    have := h.2 i hi
    unfold wpOp at this
    unfold wpOpIn
    cases ho : ops[i]? with
    | none => grind
    | some o =>
      simp only [ho] at this ⊢
      obtain ⟨h1, h2⟩ := keeps_at hk ho
      by_cases hw : Region.wanted o (yielded ops a.tmps) = true
      · simp only [hw, if_true] at this ⊢
        grind [op_in,pinned_put]
      · simp only [hw, if_false, Bool.false_eq_true] at this ⊢
        exact ⟨fun f _ => hF.fn f, ih _ _ _ this (pinned_put h2 hpin rfl)⟩
end

theorem uponIn_in {P : Program} {F : Fence} {n : Nat} {Q Q' : Exit → Act → World → Prop} {o : Oper} {a : Act} {K K' : Act → World → Prop} (hp : ∀ ch a w, ¬ Q (.panic ch) a w) (hO : ¬ LetsOut Q) (hK : ∀ a' w', K a' w' → K' a' w') : ∀ (r : Result Next), o.uponIn F n P a K Q r → o.uponIn F n P a K' Q' r := by
  intro r h
  cases r with
  | ok x w' =>
    cases x <;> simp only [Oper.uponIn] at h ⊢
    case value v => grind
    case skip => grind
    case defer d => grind
    case enter f args => exact ⟨h.1, h.2.mono fun e w'' he => by grind⟩
    case row row args => exact ⟨h.1, h.2.mono fun v w'' he => hK _ _ he⟩
    case round l f tmps x y => exact ⟨h.1, h.2.mono fun e w'' he => by grind⟩
  | halt x w' =>
    cases x <;> simp only [Oper.uponIn] at h
    grind

theorem opsIn_pre {P : Program} {F : Fence} {n : Nat} {ops ops' : Array Oper} {m : Nat} {X : Act → World → Prop} {Q : Exit → Act → World → Prop} {rest : List Nat} (hops : ∀ i, i < m → ops'[i]? = ops[i]?) (hg : ∀ i o, i < m → ops[i]? = some o → o.guard = none)
    (hX : ∀ a w, X a w → wpOpsIn F n P ops Q rest a w) : ∀ (l : List Nat), (∀ i, i ∈ l → i < m) → ∀ (a : Act) (w : World), wpOpsIn F n P ops' (fun e a w => (e = .normal ∧ X a w)) l a w → wpOpsIn F n P ops Q (l ++ rest) a w := by
  intro l
  induction l with
  | nil => intro _ a w h; exact hX a w h.2
  | cons i l ih =>
    intro hl a w h
    have hi := hl i (List.mem_cons_self ..)
    rw [List.cons_append]
    simp only [wpOpsIn] at h ⊢
    rw [hops i hi] at h
    cases ho : ops[i]? with
    | none => grind
    | some o =>
      simp only [ho] at h ⊢
      have hw : ∀ ys, Region.wanted o ys = true := fun ys => by grind [Region.wanted]
      simp only [hw, if_true] at h ⊢
      exact ⟨h.1, uponIn_in (fun _ _ _ h => by grind) (fun ⟨_, _, h⟩ => by grind) (fun a' w' h' => ih (fun k hk => hl k (List.mem_cons_of_mem _ hk)) a' w' h') _ h.2⟩

theorem final_no_panic {K : Ctx} {C : Cfg} {k : AExit → ASt → Tree} : ∀ ch a w, ¬ Final K C k (.panic ch) a w := fun ch a w ⟨_, _, _, h, _⟩ => by cases h
theorem final_no_out {K : Ctx} {C : Cfg} {k : AExit → ASt → Tree} : ¬ LetsOut (Final K C k) := fun ⟨_, _, _, _, _, h, _⟩ => by cases h

theorem runsIn {K : Ctx} {C : Cfg} {pins : List Nat} {a0 : Act} {F : Fence} {n : Nat} (hF : Open F) (hP : C.P = K.P) (hgl : C.gl = K.gl) (hnt : C.nt = K.nt) (hm : K.P.follows .mixedOrders = true) (x : Code) :
    ∀ (k : AExit → ASt → Tree) (s : ASt) (β : Book) (a : Act) (w : World), keepsC pins x = true → (run C x k s).wp C.P C.gl (Le C.ng) → Sim K β s a w → PinIn pins a0 a →
      x.wpIn F n K.P (fun e a w => Final K C k e a w ∧ PinIn pins a0 a) a w := by
  induction x with
  | skip => intro k s β a w _ h hs hp; exact wpIn_skip ⟨⟨β, s, .normal, rfl, hs, h⟩, hp⟩
  | region id ops draw =>
    intro k s β a w hk h hs hp
    simp only [run, keeps_upd hk, cond_false] at h
    cases hd : dstsOk ops with
    | false => simp only [hd, cond_false] at h; exact h.elim
    | true =>
      simp only [hd, cond_true] at h
      obtain ⟨h1, h2⟩ := region_core hP hgl hnt hd h hs (Q := Final K C k) (fun β' r a' w' hr hX => ⟨β', _, .normal, rfl, hr.toA, hX⟩)
      cases draw with
      | false => exact wpIn_region (ops_in hF hk final_no_panic final_no_out _ a w (h1 rfl) hp)
      | true => exact wpIn_region_any hm (any_in hF hk final_no_panic final_no_out _ _ a _ (h2 rfl) hp)
  | seq x y ihx ihy =>
    intro k s β a w hk h hs hp
    simp only [keepsC, Bool.and_eq_true] at hk
    refine wpIn_seq (wpIn_mono (ihx _ s β a w hk.1 h hs hp) ?_)
    rintro e a' w' ⟨⟨β', s', ae, he, hs', hk'⟩, hp'⟩
    cases e <;> simp only [exitOf, reduceCtorEq, Option.some.injEq] at he
    · subst he; exact ihy k s' β' a' w' hk.2 hk' hs' hp'
    · subst he; exact ⟨⟨β', s', _, rfl, hs', hk'⟩, hp'⟩
    · subst he; exact ⟨⟨β', s', _, rfl, hs', hk'⟩, hp'⟩
  | cond c x y ihx ihy =>
    intro k s β a w hk h hs hp
    simp only [keepsC, Bool.and_eq_true] at hk
    simp only [run] at h
    split at h
    · rename_i b hb
      have hrel : Rel β w (ev K.gl s.fr c) (a.eval c) := by
        have := rel_ev (hs.toR #[]) (x := c) (fun t _ => rfl)
        exact this
      rw [← hgl, hb] at hrel
      have hv := rel_bool_inv hrel
      exact wpIn_cond_split hv (fun ht => ihx k s β a w hk.1 (h.1 ht) hs hp) (fun hf => ihy k s β a w hk.2 (h.2 hf) hs hp)
    · exact h.elim
  | block id x ih =>
    intro k s β a w hk h hs hp
    refine wpIn_block (wpIn_mono (ih _ s β a w hk h hs hp) ?_)
    rintro e a' w' ⟨⟨β', s', ae, he, hs', hk'⟩, hp'⟩
    cases e <;> simp only [exitOf, reduceCtorEq, Option.some.injEq] at he
    · subst he; exact ⟨⟨β', s', _, rfl, hs', hk'⟩, hp'⟩
    · rename_i j
      subst he
      simp only [Exit.inBlock]
      by_cases e : j = id
      · subst e
        rw [if_pos rfl]
        simp only [Nat.beq_refl, cond_true] at hk'
        exact ⟨⟨β', s', .normal, rfl, hs', hk'⟩, hp'⟩
      · rw [if_neg e]
        have hb : Nat.beq j id = false := by grind [Nat.beq,id,absurd,Nat.eq_of_beq_eq_true]
        simp only [hb, cond_false] at hk'
        exact ⟨⟨β', s', .leave j, rfl, hs', hk'⟩, hp'⟩
    · subst he; exact ⟨⟨β', s', _, rfl, hs', hk'⟩, hp'⟩
  | _ => intro k s β a w hk; cases hk


def CalmIn (β : Book) (w W : World) : Prop := w.heap.size ≤ W.heap.size ∧ (∀ b, b < w.heap.size → β.free b → W.heap[b]? = w.heap[b]?) ∧ ∀ b, b < w.heap.size → W.shape? b = w.shape? b
def Stays (β : Book) (w W W' : World) : Prop := CalmIn β w W → CalmIn β w W'

def Iter (P : Program) (gl : Globs) (gf : FuncId) (lb : List AV) (n : Nat) (xs : Fin n → AV) : Prop :=
  Enters P gf ∧ ∀ (β : Book) (w : World) (vs : Array Value), (∀ b, β.F b → b < w.heap.size) → (∀ id b k mu, β.m id = some (.lives b k mu) → b < w.heap.size) → GlobB gl β w → Rels β w lb vs →
    ∃ ys : Fin n → Value, (∀ i, Rel β w (xs i) (ys i)) ∧ SeqStopsK Fence.wide 8 P gf vs (fun i => #[ys i]) (Stays β w) (fun l => l = List.finRange n) (fun _ => True) n w

def roundT (P : Program) (gl : Globs) (own : FuncId → Option (List Bool)) (ng nt : Nat) (c : Code) (s s' : ASt) : Tree :=
  run ⟨P, gl, nt, own, ng⟩ c (fun e t => match e with | .normal => .again t (fun u => Le ng u s') | _ => .bad "round") s
def Round (P : Program) (gl : Globs) (own : FuncId → Option (List Bool)) (ng nt : Nat) (c : Code) (s s' : ASt) : Prop := (roundT P gl own ng nt c s s').wp P gl (Le ng)

theorem round_sk {P : Program} {gl : Globs} {own : FuncId → Option (List Bool)} {ng nt : Nat} {c : Code} {s s' : ASt} (sk : Sk) (hu : unroll ng (roundT P gl own ng nt c s s') sk = sk) (h : sk.ok P gl ng) : Round P gl own ng nt c s s' :=
  unroll_ok sk _ hu h
theorem k_againR {P : Program} {gl : Globs} {ng : Nat} {s' : ASt} {ns π : List Nat} {vals : List AV} {os : List (Option Ob)} (h : ∀ s, Desc ng s ns π vals os → Le ng s s') : (Sk.again (fun u => Le ng u s') ns π vals os).ok P gl ng := h

theorem lookZ_none {ns : List Nat} {vs : List AV} {n : Nat} (h : n ∉ ns) : lookZ ns vs n = .junk := by
  induction ns generalizing vs with
  | nil => rfl
  | cons m ns ih =>
    cases vs with
    | nil => rfl
    | cons v vs =>
      rw [List.mem_cons, not_or] at h
      have hb : Nat.beq m n = false := by grind [Nat.beq,absurd,Nat.eq_of_beq_eq_true]
      simp_all [lookZ,cond_false]

def calmB (β : Book) (w : World) : Book := ⟨fun _ => none, fun b => b < w.heap.size ∧ ¬ β.free b⟩
theorem Rel.calm {β : Book} {w W : World} {a : AV} {v : Value} (h : Rel β w a v) (hc : Cl a) (hW : CalmIn β w W) : Rel (calmB β w) W a v := by
  let B1 : Book := ⟨fun _ => none, fun b => ¬ β.free b⟩
  have f1 : ∀ b, β.free b → B1.free b := fun b h => ⟨fun h' => h' h, fun id m h => by cases h⟩
  have hk : Keeps B1 w (calmB β w) W := by
    refine ⟨fun id o h => (by cases h), fun b hb hfb => hW.2.1 b hb (Classical.byContradiction fun h => hfb.1 h), fun b hb hfb => ⟨fun h => hfb.1 h.2, fun id m h => by cases h⟩, fun b el sz h => ?_⟩
    rw [hW.2.2 b (lt_of_shape h)]; exact h
  exact (h.rebook f1 hc).keep hk
theorem GlobAt.calm {β : Book} {w W : World} {g m : Nat} {f : Nat → AV} (h : GlobAt β w g m f) (hc : Cl (.ipt m f)) (hW : CalmIn β w W) : GlobAt (calmB β w) W g m f :=
  ⟨h.rel.calm hc hW, let ⟨el, e⟩ := h.size; ⟨el, by rw [hW.2.2 g (lt_of_shape e)]; exact e⟩⟩

def calmK (P : Program) (gl : Globs) (nt : Nat) (β : Book) (w W : World) : Ctx := ⟨P, gl, W.heap.size, W, nt, (calmB β w).F, fun _ => False, fun _ => none, true⟩

theorem Sim.calm {P : Program} {gl : Globs} {nt : Nat} {β : Book} {w W : World} {ns : List Nat} {vs : List AV} {a : Act} (hg : GlobB gl β w) (hW : CalmIn β w W) (hsz : a.tmps.size = nt) (hd : a.defers = [])
    (hv : ∀ (k n : Nat) v, ns[k]? = some n → vs[k]? = some v → Rel (calmB β w) W v (a.tmps.getD n undef)) : Sim (calmK P gl nt β w W) (calmB β w) (mkSt ns vs []) a W := by
  refine ⟨fun n => ?_, hsz, by grind [Marks.nil], fun id o h => (by grind [mkSt]), fun _ _ _ _ _ _ _ h => (by cases h), fun _ _ => rfl, fun _ _ _ _ h => (by cases h), fun _ _ h => (by cases h), rfl, fun b hb => ⟨Nat.lt_of_lt_of_le hb.1 hW.1, fun h => h⟩,
    Kept.refl _ _ _, Nat.le_refl _, fun g m h hgl => ((hg g m h hgl).calm ?_ hW)⟩
  · show Rel _ _ (lookZ ns vs n) _
    clear hg hW hsz hd
    induction ns generalizing vs with
    | nil => exact .junk
    | cons m ns ih =>
      cases vs with
      | nil => exact .junk
      | cons v vs =>
        simp only [lookZ]
        cases hb : Nat.beq m n with
        | true =>
          have := Nat.eq_of_beq_eq_true hb
          subst this
          exact hv 0 m v rfl rfl
        | false => exact ih (fun k n v hn hv' => hv (k + 1) n v (by grind) (by grind))
  · obtain ⟨_, _, _, _, _, _, _, _, hcl, _⟩ := rel_ipt_inv (hg g m h hgl).rel
    exact .ipt hcl

theorem Round.in {F : Fence} {n : Nat} {K : Ctx} {own : FuncId → Option (List Bool)} {ng : Nat} {c : Code} {s s' : ASt} {β : Book} {a : Act} {w : World} {pins : List Nat} (hr : Round K.P K.gl own ng K.nt c s s') (hF : Open F) (hk : keepsC pins c = true)
    (hng : ∀ id, ng ≤ id → K.b0 id = none) (hm : K.P.follows .mixedOrders = true) (hs : Sim K β s a w) : c.wpIn F n K.P (fun e a' w' => e = .normal ∧ (∃ β', Sim K β' s' a' w') ∧ PinIn pins a a') a w := by
  refine wpIn_mono (runsIn (C := ⟨K.P, K.gl, K.nt, own, ng⟩) (pins := pins) (a0 := a) hF rfl rfl rfl hm c _ s β a w hk hr hs (fun _ _ => rfl)) ?_
  rintro e a' w' ⟨⟨β', t, ae, he, hs', hk'⟩, hp⟩
  cases e <;> simp only [exitOf, reduceCtorEq, Option.some.injEq] at he
  · subst he; exact ⟨rfl, hk' K β' a' w' hng hs', hp⟩
  · subst he; exact hk'.elim
  · subst he; exact hk'.elim

theorem Round.ops {F : Fence} {n : Nat} {K : Ctx} {own : FuncId → Option (List Bool)} {ng id : Nat} {ops : Array Oper} {s s' : ASt} {β : Book} {a : Act} {w : World} {pins : List Nat} (hr : Round K.P K.gl own ng K.nt (.region id ops false) s s') (hF : Open F) (hk : keepsOps pins ops = true)
    (hng : ∀ id, ng ≤ id → K.b0 id = none) (hs : Sim K β s a w) : wpOpsIn F n K.P ops (fun e a' w' => e = .normal ∧ (∃ β', Sim K β' s' a' w') ∧ PinIn pins a a') (List.range ops.size) a w := by
  have h : (run ⟨K.P, K.gl, K.nt, own, ng⟩ (.region id ops false) (fun e t => match e with | .normal => .again t (fun u => Le ng u s') | _ => .bad "round") s).wp K.P K.gl (Le ng) := hr
  simp only [run, keeps_upd hk, cond_false] at h
  cases hd : dstsOk ops with
  | false => simp only [hd, cond_false] at h; exact h.elim
  | true =>
    simp only [hd, cond_true] at h
    have := (region_core (K := K) (C := ⟨K.P, K.gl, K.nt, own, ng⟩) rfl rfl rfl hd h hs (Q := fun e a w => e = .normal ∧ ∃ β', Sim K β' s' a w) (fun β' r a' w' hr hX => ⟨rfl, hX K β' a' w' hng hr.toA⟩)).1 rfl
    have h2 := ops_in (a0 := a) (pins := pins) (n := n) hF hk (fun _ _ _ h => by grind) (fun ⟨_, _, h⟩ => by grind) _ a w this (fun _ _ => rfl)
    grind

def allMu (obs : List (Option Ob)) : Bool := obs.all fun o => match o with | some o => o.mu | none => false

theorem allMu_spec {obs : List (Option Ob)} (h : allMu obs = true) {k : Nat} (hk : k < obs.length) : ∃ o, obs.getD k none = some o ∧ o.mu = true := by
  have := List.all_eq_true.1 h obs[k] (List.getElem_mem hk)
  grind

theorem NM.atL {l : List AV} (h : ∀ v, v ∈ l → NM v) (j : Nat) : NM (atL l j) := by
  unfold Am.atL
  rw [List.getD_eq_getElem?_getD]
  cases hj : l[j]? with
  | none => exact .junk
  | some x => grind
def NML : List AV → Prop
  | [] => True
  | v :: l => NM v ∧ NML l
theorem NML.spec {l : List AV} (h : NML l) : ∀ v, v ∈ l → NM v := by
  induction l with
  | nil => simp
  | cons x l ih => intro v hv; rcases List.mem_cons.1 hv with rfl | hv; (· exact h.1); (· exact ih h.2 v hv)
theorem NML.atL {l : List AV} (h : NML l) (j : Nat) : NM (Am.atL l j) := NM.atL h.spec j
def NMB (o : Ob) : Prop := ∀ i j, i < o.n → j < o.es → NM (o.f i j)
def NMO : List (Option Ob) → Prop
  | [] => True
  | none :: l => NMO l
  | some o :: l => NMB o ∧ NMO l
theorem NMO.spec {l : List (Option Ob)} (h : NMO l) : ∀ (k : Nat) o, l[k]? = some (some o) → NMB o := by
  induction l with
  | nil => simp
  | cons x l ih =>
    intro k o hk
    cases x with
    | none =>
      cases k with
      | zero => grind
      | succ k => exact ih h k o (by grind)
    | some y =>
      cases k with
      | zero => simp at hk; subst hk; exact h.1
      | succ k => exact ih h.2 k o (by grind)
theorem NMS.of {ns : List Nat} {vs : List AV} {obs : List (Option Ob)} (h1 : NML vs) (h2 : NMO obs) : NMS (mkSt ns vs obs) := by
  refine ⟨fun n => ?_, fun id o ho => ?_⟩
  · show NM (lookZ ns vs n)
    induction ns generalizing vs with
    | nil => exact .junk
    | cons m ns ih =>
      cases vs with
      | nil => exact .junk
      | cons v vs =>
        simp only [lookZ]
        cases Nat.beq m n with
        | true => exact h1.1
        | false => exact ih h1.2
  · have ho : (obs[id]?).getD none = some o := by grind [mkSt]
    cases hk : obs[id]? with
    | none => grind
    | some x => rw [hk] at ho; exact h2.spec id o (by grind)

end Go.Am

namespace Go.Am
structure Bx : Type 1 where
  l : List (List AV)
structure OpqD : Type 1 where
  c : Code
  ns : List Nat
  vs : List AV
  obs : List (Option Ob)
  s' : ASt
structure LoopF : Type 1 where
  ι : Type
  ch : ι → List (Nat × AV)
  obs : ι → List (Nat × Option Ob)
  m : ι → Nat
  i0 : ι
def LoopF.st (α : Type) (p : α → Prop) (ch : α → List (Nat × AV)) (obs : α → List (Nat × Option Ob)) (m : α → Nat) (a : α) (h : p a) : LoopF :=
  ⟨{x : α // p x}, fun x => ch x.1, fun x => obs x.1, fun x => m x.1, ⟨a, h⟩⟩
inductive FR : Type 1 where
  | lst (l : List (List AV))
  | row (l : List AV)
  | fn (a : AV)
  | cat (n : Nat) (f g : FR)
  | put (k : Nat) (x : List AV) (f : FR)
  | ty (t : TypeId) (f : FR)
inductive FO : Type 1 where
  | no
  | ob (es n : Nat) (mu : Bool) (r : FR)
structure FOs : Type 1 where
  l : List FO
end Go.Am

set_option linter.unusedVariables false
namespace Go.Am
open Go Go.RowKit Go.Shelf Go.Proofs

section
variable {P : Program} {ρ : Ren} {gl : Globs}

theorem two_cells {cs : Array Value} (h : cs.size = 2) : ∃ a b, cs = #[a, b] := by
  obtain ⟨l⟩ := cs
  match l, h with
  | [a, b], _ => simp

theorem gives_copyCheck (L : Lays.n240 P ρ) (X : Builder.X72 P ρ) (hE : Enters P (ρ.f 240)) {S : AV} {rest : List Ob} :
    Gives P gl (ρ.f 240) (⟨2, 1, true, .ty (ρ.t 72) (.lst [[.junk, S]])⟩ :: rest) [.own 0 2 0 0 2] (.tup []) (some ⟨2, 1, true, .ty (ρ.t 72) (.lst [[.junk, S]])⟩ :: rest.map some) := by
  refine ⟨hE, fun β w vs hF hgiv hgl hargs => ?_⟩
  obtain ⟨u, rfl, hu⟩ := rels1 hargs
  rcases hgiv.holds 0 _ rfl with ⟨b, hb, cs, el, hheap, hsz, hcells⟩ | ⟨_, h⟩
  rotate_left
  · cases h
  obtain ⟨hnt, rfl, hex⟩ := hsz.ty _ rfl
  obtain ⟨hcz, hfst⟩ := hex (show 1 < 2 by decide)
  have hcz : cs.size = 2 := hcz
  obtain ⟨x0, x1, rfl⟩ := two_cells hcz
  obtain ⟨y1, e1, hr1, ho1⟩ := hcells 0 1 (show 0 < 1 by decide) (show 1 < 2 by decide)
  cases e1
  replace hr1 : Rel β w S x1 := hr1
  have hup : u = .pointer (some ⟨b, 0, none⟩) := by cases hu <;> grind
  subst hup
  have hlt := (hgiv.lt 0 b _ _ hb).1
  have aft : ∀ w' : World, (∃ y, w'.heap[b]? = some (.cells #[y, x1] (ρ.t 72) (0, 0)) ∧ y = .pointer (some ⟨b, 0, none⟩)) → Keeps β w β w' → w'.heap.size = w.heap.size → (∀ k, k ≠ b → w'.heap[k]? = w.heap[k]?) →
      After β β w w' (some ⟨2, 1, true, .ty (ρ.t 72) (.lst [[.junk, S]])⟩ :: rest.map some) := fun w' ⟨y, hy, ey⟩ hk hsize hoth => by
    refine ⟨rfl, fun k ob hkk => ?_, fun k hkk => hgiv.none k (by grind), hgiv.inj, fun k b' n mu h => ⟨by rw [hsize]; exact (hgiv.lt k b' n mu h).1, .inr ⟨k, n, mu, h⟩⟩, fun k o h => ⟨o, h, o.later_refl⟩⟩
    cases k with
    | zero =>
      cases hkk
      refine .inl ⟨b, hb, #[y, x1], ρ.t 72, hy, ⟨by simp, fun t h => by cases h <;> grind⟩, fun i j hi hj => ?_⟩
      have hi : i < 1 := hi
      have hj : j < 2 := hj
      obtain rfl : i = 0 := by omega
      match j, hj with
      | 0, _ => exact ⟨y, rfl, .junk, by rw [ey]; rfl⟩
      | 1, _ => exact ⟨x1, rfl, (hr1.keep hk : Rel β w' S x1), ho1⟩
    | succ k =>
      have hkk' : rest[k]? = some ob := by grind
      rcases hgiv.holds (k + 1) ob (by grind) with ⟨b', h1, h2⟩ | ⟨h1, h2⟩
      · refine .inl ⟨b', h1, h2.keep hk (hoth b' fun e => ?_)⟩
        subst e
        exact absurd (hgiv.inj _ _ _ _ _ _ _ hb h1) (by omega)
      · exact .inr ⟨h1, h2⟩
  rcases hfst with hx0 | hx0
  · have hx0 : x0 = .pointer none := by grind
    subst hx0
    have hw : (w.setCell ⟨b, 0, none⟩ (.pointer (some ⟨b, 0, none⟩))).heap[b]? = some (.cells (#[Value.pointer none, x1].setIfInBounds 0 (.pointer (some ⟨b, 0, none⟩))) (ρ.t 72) (0, 0)) := by grind [World.setCell]
    have hwr : Wrote w (w.setCell ⟨b, 0, none⟩ (.pointer (some ⟨b, 0, none⟩))) b (#[Value.pointer none, x1].setIfInBounds 0 (.pointer (some ⟨b, 0, none⟩))) (ρ.t 72) :=
      ⟨hw, fun k hk => Below.heap_setCell w _ _ k hk, World.size_setCell .., rfl, rfl, rfl⟩
    refine (Any.Builder_copyCheck_fresh L X b w (by grind [World.cell?]) (by grind [World.shape?]) (by grind [World.frozen?])).mono fun e w' hh => ?_
    obtain ⟨rfl, rfl⟩ := hh
    have hk : Keeps β w β (w.setCell ⟨b, 0, none⟩ (.pointer (some ⟨b, 0, none⟩))) := hwr.keeps hheap (by simp) hb
    exact ⟨_, β, rfl, hwr.kept hheap (by simp) (.inr ⟨0, _, _, hb⟩), aft _ ⟨_, by grind, rfl⟩ hk hwr.size hwr.other, .tup rfl (fun j u v h => by simp)⟩
  · have hx0 : x0 = .pointer (some ⟨b, 0, none⟩) := by grind
    subst hx0
    refine (Any.Builder_copyCheck_used L X b w (by grind [World.cell?])).mono fun e w' hh => ?_
    obtain ⟨rfl, rfl⟩ := hh
    exact ⟨_, β, rfl, Kept.refl _ _ _, aft _ ⟨_, hheap, rfl⟩ (Keeps.refl _ _) rfl (fun _ _ => rfl), .tup rfl (fun j u v h => by simp)⟩

theorem freeze_other (w : World) (a : Addr) (n k : Nat) (h : k ≠ a.block) : (w.freeze a n).heap[k]? = w.heap[k]? := by
  unfold World.freeze
  grind

set_option maxHeartbeats 1000000 in
set_option maxRecDepth 100000 in
theorem gives_string (L : Lays.n169 P ρ) (X : Builder.Extra P ρ) (hE : Enters P (ρ.f 169)) {R1 : Rep} {f : Nat → Nat → AV} {l : List UInt8} (h0 : l ≠ []) (hl : l.length ≤ 140737488355328) (hR1 : R1 0 1 = .osl 1 1 0 l.length)
    (hf : ∀ i, i < l.length → f i 0 = .int .u8 ((l.getD i 0).toNat : Int)) :
    Gives P gl (ρ.f 169) [⟨2, 1, true, R1⟩, ⟨1, l.length, true, .ty (ρ.t 5) (.fn f)⟩] [.own 0 2 0 0 2] (.str ⟨l.toArray⟩) [none, none] := by
  refine ⟨hE, fun β w vs hF hgiv hgl hargs => ?_⟩
  obtain ⟨u, rfl, hu⟩ := rels1 hargs
  have hl0 : l.length ≠ 0 := by grind
  rcases hgiv.holds 0 _ rfl with ⟨b, hb, cs, el, hheap, hsz, hcells⟩ | ⟨_, h⟩
  rotate_left
  · cases h
  rcases hgiv.holds 1 _ rfl with ⟨g, hg, cs1, el1, hheap1, hsz1, hcells1⟩ | ⟨_, h⟩
  rotate_left
  · grind
  obtain ⟨_, rfl, _⟩ := hsz1.ty _ rfl
  have hup : u = .pointer (some ⟨b, 0, none⟩) := by cases hu <;> grind
  subst hup
  obtain ⟨y1, e1, hr1, _⟩ := hcells 0 1 (by simp) (by simp)
  replace hr1 : Rel β w (R1 0 1) y1 := hr1
  rw [hR1] at hr1
  obtain ⟨cap, rfl, hcap⟩ : ∃ cap, y1 = .slice (some ⟨g, 0, none⟩) l.length cap ∧ l.length ≤ cap := by
    generalize hz : l.length = z at hr1
    cases hr1 <;> grind
  have hle : l.length * 1 ≤ cs1.size := hsz1.le
  have c1 : w.drew.cell? ⟨b, 1, none⟩ = some (.slice (some ⟨g, 0, none⟩) l.length cap) := by
    have hh : w.drew.heap[b]? = some (.cells cs el (0, 0)) := hheap
    grind [World.cell?]
  have hSD : (Builtin.unsafeSliceData_ #[(ρ.t 37)] (ρ.t 127) #[.slice (some ⟨g, 0, none⟩) l.length cap]).run P w.drew = .ok (.pointer (some ⟨g, 0, none⟩)) w.drew :=
    Lib.run_unsafeSliceData_row _ _ _ _ _ _ (by omega)
  have hUS : (Builtin.unsafeString_ #[(ρ.t 127), (ρ.t 3)] (ρ.t 9) #[.pointer (some ⟨g, 0, none⟩), .int .i64 l.length]).run P w.drew = .ok (.string ⟨l.toArray⟩) (w.drew.freeze ⟨g, 0, none⟩ l.length) := by
    have hh : w.drew.heap[g]? = some (.cells cs1 (ρ.t 5) (0, 0)) := hheap1
    refine Lib.run_unsafeString_row w.drew (ρ.t 127) (ρ.t 3) (ρ.t 9) (ρ.t 5) L.t127 X.cellsByte g cs1.size (by grind [World.shape?]) l h0 (by omega) (by omega) ?_
    intro j x hx
    have hj : j < l.length := (List.getElem?_eq_some_iff.1 hx).1
    obtain ⟨y, k1, k2, _⟩ := hcells1 j 0 hj (by simp)
    replace k2 : Rel β w (f j 0) y := k2
    grind [rel_int_inv,Addr,Addr.add,World.cell?]
  have mixed := L.mixed
  have t72 := L.t72; have a72 := L.a72; have z72 := L.z72; have v72 := L.v72; have u72 := run_underlying L.t72
  have t70 := L.t70; have a70 := L.a70; have z70 := L.z70; have v70 := L.v70; have u70 := run_underlying L.t70
  have t37 := L.t37; have a37 := L.a37; have z37 := L.z37; have v37 := L.v37; have u37 := run_underlying L.t37
  have t127 := L.t127; have a127 := L.a127; have z127 := L.z127; have v127 := L.v127; have u127 := run_underlying L.t127
  have t3 := L.t3; have a3 := L.a3; have z3 := L.z3; have v3 := L.v3; have u3 := run_underlying L.t3
  have t9 := L.t9; have a9 := L.a9; have z9 := L.z9; have v9 := L.v9; have u9 := run_underlying L.t9
  have t5 := X.t5; have a5 := X.a5; have z5 := X.z5; have v5 := X.v5; have u5 := run_underlying X.t5
  have key : Calls P (ρ.f 169) #[.pointer (some ⟨b, 0, none⟩)] w fun e w' => e = .returned (.string ⟨l.toArray⟩) ∧ w' = w.drew.freeze ⟨g, 0, none⟩ l.length := by
    clear hgiv hgl hargs hF
    go_enter L.f169, Body.n169_ntmps ρ
    go_wp2
    go_region_o
    all_goals (go_wp2; go_ret; simp)
  refine key.mono fun e w' hh => ?_
  obtain ⟨rfl, rfl⟩ := hh
  have hoth : ∀ k, k ≠ g → (w.drew.freeze ⟨g, 0, none⟩ l.length).heap[k]? = w.heap[k]? := fun k hk => freeze_other w.drew _ _ k hk
  have hgs := hgiv.lt 1 g _ _ hg
  have hfz : ∃ z, (w.drew.freeze ⟨g, 0, none⟩ l.length).heap[g]? = some (.cells cs1 (ρ.t 5) z) := by
    have hh : w.drew.heap[g]? = some (.cells cs1 (ρ.t 5) (0, 0)) := hheap1
    unfold World.freeze
    grind
  obtain ⟨z, hfz⟩ := hfz
  have hsize : (w.drew.freeze ⟨g, 0, none⟩ l.length).heap.size = w.heap.size := by
    unfold World.freeze
    split
    · rfl
    simp
  have hmeta : (w.drew.freeze ⟨g, 0, none⟩ l.length).os = w.os ∧ (w.drew.freeze ⟨g, 0, none⟩ l.length).tape = w.tape ∧ (w.drew.freeze ⟨g, 0, none⟩ l.length).output = w.output := by
    unfold World.freeze
    split <;> exact ⟨rfl, rfl, rfl⟩
  refine ⟨_, ⟨fun k => if k < 2 then some .dead else none, β.F⟩, rfl, ⟨hmeta.1, hmeta.2.1, hmeta.2.2, by omega, fun k _ hG => hoth k (fun e => hG ⟨1, _, _, e ▸ hg⟩), fun k _ => ?_, fun k o ho hc => ?_⟩,
    ⟨rfl, fun k ob hk => ?_, fun k hk => if_neg (by grind), fun i j b n n' mu mu' e1 => ?_, fun k b n mu e1 => ?_, fun k o ho => ?_⟩, .str⟩
  · grind [World.shape?]
  · rw [hoth k (fun e => by subst e; rw [hheap1] at ho; cases ho; cases hc)]; omega
  · grind
  · simp
  · grind
  · by_cases hk : k < 2
    · exact ⟨.dead, if_pos hk, by cases o <;> trivial⟩
    · rw [hgiv.none k (by grind)] at ho; grind
end
theorem tyc_ty (t : TypeId) (f g : Rep) : tyc (.ty t f) (.ty t g) = true := Bool.or_eq_true_iff.2 (.inr (Nat.beq_refl t))
theorem obT_eq {os : List (Option Ob)} {mu : Bool} {t : TypeId} {k : IntKind} {n n' : Nat} {f g : Nat → Nat → Int} (hn : n = n') (h : ∀ i, i < n → f i 0 = g i 0) : ObEnt os ⟨1, n, mu, .ty t (.fn fun i j => .int k (f i j))⟩ ⟨1, n', mu, .ty t (.fn fun i j => .int k (g i j))⟩ := by
  subst hn
  refine ⟨congrArg (Prod.mk 1) (tyc_ty t _ _), rfl, rfl, fun i j hi hj => Ent.of_eq ?_⟩
  obtain rfl : j = 0 := Nat.lt_one_iff.1 hj
  exact congrArg (AV.int k) (h i hi)
theorem obB_ent {os : List (Option Ob)} {mu : Bool} {t : TypeId} {a S S' : AV} (h : Ent os S S') : ObEnt os ⟨2, 1, mu, .ty t (.lst [[a, S]])⟩ ⟨2, 1, mu, .ty t (.lst [[.junk, S']])⟩ :=
  ⟨congrArg (Prod.mk 2) (tyc_ty t _ _), rfl, rfl, fun i j hi hj => by
    have hi : i < 1 := hi
    have hj : j < 2 := hj
    obtain rfl : i = 0 := by omega
    match j, hj with
    | 0, _ => exact Ent.junk _
    | 1, _ => exact h⟩
end Go.Am

namespace Go.Proofs.YtbmdmoknnlhdoaaGreatDoor.Z
open Go Go.Am Go.Sp Go.Lib Go.RowKit Go.Shelf
set_option maxRecDepth 100000

def bld_ren : Go.Shelf.Ren := ⟨fun | 156 => 70 | 165 => 115 | 166 => 65 | 167 => 33 | 169 => 36 | 240 => 69 | 241 => 158 | 276 => 114 | 277 => 196 | n => n, fun | 31 => 47 | 9 => 9 | 3 => 3 | 4 => 4 | 0 => 0 | 20 => 20 | 72 => 95 | 76 => 113 | 70 => 92 | 37 => 93 | 75 => 97 | 127 => 131 | 164 => 176 | 5 => 5 | 80 => 101 | n => n, fun | n => n⟩
theorem bld_lays : Lays.n167 Tryz.prog bld_ren := {
  mixed := mixed
  f167 := Tryz.func33.trans (congrArg some (by kernel_rfl))
  f240 := Tryz.func69.trans (congrArg some (by kernel_rfl))
  f276 := Tryz.func114.trans (congrArg some (by kernel_rfl))
  t0 := Tryz.underlying0
  a0 := Tryz.isAgg0
  z0 := Tryz.sizeOf0
  v0 := Tryz.zeroValue0
  t4 := Tryz.underlying4
  a4 := Tryz.isAgg4
  z4 := Tryz.sizeOf4
  v4 := Tryz.zeroValue4
  t5 := Tryz.underlying5
  a5 := Tryz.isAgg5
  z5 := Tryz.sizeOf5
  v5 := Tryz.zeroValue5
  t9 := Tryz.underlying9
  a9 := Tryz.isAgg9
  z9 := Tryz.sizeOf9
  v9 := Tryz.zeroValue9
  t20 := Tryz.underlying20
  a20 := Tryz.isAgg20
  z20 := Tryz.sizeOf20
  v20 := Tryz.zeroValue20
  t37 := Tryz.underlying93
  a37 := Tryz.isAgg93
  z37 := Tryz.sizeOf93
  v37 := Tryz.zeroValue93
  t70 := Tryz.underlying92
  a70 := Tryz.isAgg92
  z70 := Tryz.sizeOf92
  v70 := Tryz.zeroValue92
  t72 := Tryz.underlying95
  a72 := Tryz.isAgg95
  z72 := Tryz.sizeOf95
  v72 := Tryz.zeroValue95
  t75 := Tryz.underlying97
  a75 := Tryz.isAgg97
  z75 := Tryz.sizeOf97
  v75 := Tryz.zeroValue97
  t164 := Tryz.underlying176
  a164 := Tryz.isAgg176
  z164 := Tryz.sizeOf176
  v164 := Tryz.zeroValue176 }
theorem bld_extra : Builder.Extra Tryz.prog bld_ren := {
  sizeBuilder := by kernel_rfl
  liesBuilder := by kernel_rfl
  t5 := Tryz.underlying5
  a5 := Tryz.isAgg5
  z5 := Tryz.sizeOf5
  v5 := Tryz.zeroValue5
  infoByte := by kernel_rfl
  cellsByte := by kernel_rfl
  sizeByte := by kernel_rfl
  neB5 := by decide }
theorem wb_k (B b : Nat) (bs : List Value) (c : Int) (w : World) (h : IsBuilderF 95 5 B b bs w) (hlen : bs.length + 1 ≤ 140737488355328) (hBw : B ≤ w.heap.size) :
    Calls Tryz.prog 33 #[.pointer (some ⟨b, 0, none⟩), .int .u8 c] w fun e w' => e = .returned .nilIface ∧ (BuilderAtF 95 5 B b (.pointer (some ⟨b, 0, none⟩)) (bs ++ [.int .u8 c]) w' ∧ Below B w w' ∧ OthersKept 5 (some b) w w') :=
  Any.Builder_WriteByte_k bld_lays bld_extra B b bs c w h hlen hBw
theorem ws_k (B b : Nat) (bs : List Value) (s : ByteArray) (w : World) (h : IsBuilderF 95 5 B b bs w) (hlen : bs.length + s.size ≤ 140737488355328) (hBw : B ≤ w.heap.size) :
    Calls Tryz.prog 65 #[.pointer (some ⟨b, 0, none⟩), .string s] w fun e w' => e = .returned (.tuple #[.int .i64 s.size, .nilIface]) ∧ (BuilderAtF 95 5 B b (.pointer (some ⟨b, 0, none⟩)) (bs ++ strCells s) w' ∧ Below B w w' ∧ OthersKept 5 (some b) w w') :=
  Any.Builder_WriteString_k { Tryz.lays156 with } Tryz.Builder_Extra_156 B b bs s w h hlen hBw
theorem st_k (B b : Nat) (l : List UInt8) (w : World) (h : IsBuilderF 95 5 B b (Lib.byteCells l) w) (hBw : B ≤ w.heap.size) :
    Calls Tryz.prog 36 #[.pointer (some ⟨b, 0, none⟩)] w fun e w' => e = .returned (.string ⟨l.toArray⟩) ∧ (IsBuilderF 95 5 B b (Lib.byteCells l) w' ∧ Below B w w' ∧ OthersKept 5 (some b) w w') :=
  Any.Builder_String_any_k { Tryz.lays156 with } Tryz.Builder_Extra_156 B b l w h hBw

end Go.Proofs.YtbmdmoknnlhdoaaGreatDoor.Z

namespace Go.Sp
open Go Go.Am

theorem blt_t {a b : Nat} (h : a < b) : Nat.blt a b = true := by simp_all
theorem blt_f {a b : Nat} (h : b ≤ a) : Nat.blt a b = false := by grind [Nat.blt,Nat.blt_eq]
theorem beq_f {a b : Nat} (h : a ≠ b) : Nat.beq a b = false := by grind [Nat.beq,absurd,Nat.eq_of_beq_eq_true]

theorem ObEnt.setF {os : List (Option Ob)} {n i0 : Nat} {mu : Bool} {k : IntKind} {F G : Nat → Int} {X : Int} (h0 : X = G i0) (h : ∀ i, i < n → i ≠ i0 → F i = G i) :
    ObEnt os ⟨1, n, mu, .fn fun i j => .int k (bif Nat.beq i (i0 + 0) && (Nat.ble 0 j && Nat.blt j 1) then X else F i)⟩ ⟨1, n, mu, .fn fun i _ => .int k (G i)⟩ :=
  ⟨rfl, rfl, rfl, fun i j hi hj => Ent.of_eq (by
    obtain rfl : j = 0 := Nat.lt_one_iff.1 hj
    show AV.int k (bif Nat.beq i i0 && true then X else F i) = .int k (G i)
    grind [Nat.beq_refl,beq_f])⟩
theorem ObEnt.pushF {os : List (Option Ob)} {x x' : Nat} {mu : Bool} {k : IntKind} {F : Nat → Int} {v : Int} (hx : x' = x + 1) (h : v = F x) :
    ObEnt os ⟨1, x + 1, mu, .fn fun i j => .int k (bif Nat.blt i x then F i else intOfAV (atL [.int k v] j))⟩ ⟨1, x', mu, .fn fun i _ => .int k (F i)⟩ := by
  subst hx
  refine ⟨rfl, rfl, rfl, fun i j hi hj => Ent.of_eq ?_⟩
  obtain rfl : j = 0 := Nat.lt_one_iff.1 hj
  have hi : i < x + 1 := hi
  show AV.int k (bif Nat.blt i x then F i else v) = .int k (F i)
  by_cases e : i < x
  · grind [blt_t]
  grind
theorem ObEnt.setR {os : List (Option Ob)} {m c0 : Nat} {mu : Bool} {k : IntKind} {F G : Nat → Int} {X : Int} {P : Nat → Nat → Bool} (hP : ∀ j, j < m → P 0 j = Nat.beq j c0) (h0 : X = G c0) (h : ∀ j, j < m → j ≠ c0 → F j = G j) :
    ObEnt os ⟨m, 1, mu, .fn fun i j => .int k (bif P i j then X else F j)⟩ ⟨m, 1, mu, .fn fun _ j => .int k (G j)⟩ :=
  ⟨rfl, rfl, rfl, fun i j hi hj => Ent.of_eq (by
    obtain rfl : i = 0 := Nat.lt_one_iff.1 hi
    show AV.int k (bif P 0 j then X else F j) = .int k (G j)
    grind [Nat.beq_refl,beq_f])⟩
theorem ObEnt.rowR {os : List (Option Ob)} {m : Nat} {mu : Bool} {k : IntKind} {G : Nat → Int} {l : List AV} (h : l = (List.range m).map fun j => .int k (G j)) :
    ObEnt os ⟨m, 1, mu, .lst [l]⟩ ⟨m, 1, mu, .fn fun _ j => .int k (G j)⟩ := by
  subst h
  refine ⟨rfl, rfl, rfl, fun i j hi hj => Ent.of_eq ?_⟩
  obtain rfl : i = 0 := Nat.lt_one_iff.1 hi
  exact atL_map_range hj

theorem fill_step {F : Nat → Int} {z : Int} {i q : Nat} (h : q ≠ i) : (bif Nat.blt q i then F q else z) = (bif Nat.blt q (i + 1) then F q else z) := by grind [blt_t,blt_f]
theorem ObEnt.fillF {os : List (Option Ob)} {n i : Nat} {mu : Bool} {k : IntKind} {F : Nat → Int} {X z : Int} (h : X = F i) :
    ObEnt os ⟨1, n, mu, .fn fun q j => .int k (bif Nat.beq q (i + 0) && (Nat.ble 0 j && Nat.blt j 1) then X else (bif Nat.blt q i then F q else z))⟩ ⟨1, n, mu, .fn fun q _ => .int k (bif Nat.blt q (i + 1) then F q else z)⟩ :=
  ObEnt.setF (i0 := i) (by simp_all [blt_t]) (fun q _ he => fill_step he)

theorem ObEnt.fnR {os : List (Option Ob)} {m : Nat} {mu : Bool} {k : IntKind} {F G : Nat → Int} (h : ∀ j, j < m → F j = G j) :
    ObEnt os ⟨m, 1, mu, .fn fun _ j => .int k (F j)⟩ ⟨m, 1, mu, .fn fun _ j => .int k (G j)⟩ := ⟨rfl, rfl, rfl, fun _ j _ hj => Ent.of_eq (congrArg _ (h j hj))⟩
theorem ObEnt.fnF {os : List (Option Ob)} {n n' : Nat} {mu : Bool} {k : IntKind} {F G : Nat → Int} (hn : n = n') (h : ∀ i, i < n → F i = G i) :
    ObEnt os ⟨1, n, mu, .fn fun i _ => .int k (F i)⟩ ⟨1, n', mu, .fn fun i _ => .int k (G i)⟩ := ⟨rfl, hn, rfl, fun i _ hi _ => Ent.of_eq (congrArg _ (h i hi))⟩

theorem fill_step2 {F z : Nat → Int} {i q : Nat} (h : q ≠ i) : (bif Nat.blt q i then F q else z q) = (bif Nat.blt q (i + 1) then F q else z q) := by grind [blt_t,blt_f]

theorem getD_rows {l : List Int} {k : IntKind} {i : Nat} (h : i < l.length) : atL ((l.map fun x => [AV.int k x]).getD i []) 0 = .int k (l.getD i 0) := by
  rw [List.getD_eq_getElem?_getD, List.getD_eq_getElem?_getD, List.getElem?_map, List.getElem?_eq_getElem h]
  rfl


abbrev sps (n : Nat) (S : Nat → Spend) : AV := .isl 80 n (fun i j => atL (S i).cells j)
abbrev ils (n : Nat) (f : Nat → Int) : AV := .isl 1 n (fun i _ => .int .i64 (f i))

structure Chn where
  first : Spend
  n : Nat
  l : Nat → Spend

def Chn.cells (h : Chn) : List AV := h.first.cells ++ [sps h.n h.l]
def Chn.av (h : Chn) : AV := .agg h.cells

structure Esc where
  e1 : Int
  e2 : Int
  na : Nat
  a : Nat → Int
  c : Int
  nz : Nat
  z : Nat → Int

def Esc.cw (e : Esc) (x y : AV) : List AV := [.int .i64 e.e1, .int .i64 e.e2, x, .int .i64 e.c, y]
def Esc.cells (e : Esc) : List AV := e.cw (ils e.na e.a) (ils e.nz e.z)
def Esc.av (e : Esc) : AV := .agg e.cells

abbrev chs (n : Nat) (f : Nat → Chn) : AV := .isl 81 n (fun i j => atL (f i).cells j)
abbrev escs (n : Nat) (f : Nat → Esc) : AV := .isl 5 n (fun i j => atL (f i).cells j)

structure Pay where
  number : Int
  ns : Nat
  sp : Nat → Spend
  nc : Nat
  ch : Nat → Chn
  ne : Nat
  es : Nat → Esc

def Pay.cw (p : Pay) (x y z : AV) : List AV := [.int .i64 p.number, x, y, z]
def Pay.cells (p : Pay) : List AV := p.cw (sps p.ns p.sp) (chs p.nc p.ch) (escs p.ne p.es)
def Pay.av (p : Pay) : AV := .agg p.cells

structure Inv where
  payee : Nat → Int
  amount : Int
  time : Int
  number : Int

def u8c (p : Nat → Int) : List AV := [.int .u8 (p 0), .int .u8 (p 1), .int .u8 (p 2), .int .u8 (p 3), .int .u8 (p 4), .int .u8 (p 5), .int .u8 (p 6), .int .u8 (p 7), .int .u8 (p 8), .int .u8 (p 9), .int .u8 (p 10), .int .u8 (p 11), .int .u8 (p 12), .int .u8 (p 13), .int .u8 (p 14), .int .u8 (p 15), .int .u8 (p 16), .int .u8 (p 17), .int .u8 (p 18), .int .u8 (p 19), .int .u8 (p 20), .int .u8 (p 21), .int .u8 (p 22), .int .u8 (p 23), .int .u8 (p 24), .int .u8 (p 25), .int .u8 (p 26), .int .u8 (p 27), .int .u8 (p 28), .int .u8 (p 29), .int .u8 (p 30), .int .u8 (p 31)]
def Inv.cells (v : Inv) : List AV := u8c v.payee ++ [.int .i64 v.amount, .int .i64 v.time, .int .i64 v.number]
def Inv.av (v : Inv) : AV := .agg v.cells
def Inv.zero : Inv := ⟨fun _ => 0, 0, 0, 0⟩
def anyI (p : Nat → Bool) (n : Nat) : Bool := decide (firstI p n 0 ≥ 0)
def Pay.zero : Pay := ⟨0, 0, fun _ => .zero, 0, fun _ => ⟨.zero, 0, fun _ => .zero⟩, 0, fun _ => ⟨0, 0, 0, fun _ => 0, 0, 0, fun _ => 0⟩⟩
structure LightP (p : Pay) : Prop where
  ns : p.ns ≤ 8
  nc : p.nc ≤ 8
  ne : p.ne ≤ 20
  sp : ∀ i, i < p.ns → (p.sp i).nl ≤ 1000 ∧ (p.sp i).np ≤ 1000
  cn : ∀ i, i < p.nc → (p.ch i).n ≤ 10
  cf : ∀ i, i < p.nc → (p.ch i).first.nl ≤ 1000 ∧ (p.ch i).first.np ≤ 1000
  cl : ∀ i j, i < p.nc → j < (p.ch i).n → ((p.ch i).l j).nl ≤ 1000 ∧ ((p.ch i).l j).np ≤ 1000
  es : ∀ i, i < p.ne → (p.es i).na ≤ 1000 ∧ (p.es i).nz ≤ 1000

theorem anyI_f {p : Nat → Bool} {n : Nat} (h : anyI p n = false) : ∀ i, i < n → p i = false := by grind [anyI,firstI_neg,List.any_eq_false]

theorem EntL.app {os : List (Option Ob)} : ∀ {l l' m m' : List AV}, EntL os l l' → EntL os m m' → EntL os (l ++ m) (l' ++ m')
  | [], [], _, _, _, h => h
  | _ :: _, _ :: _, _, _, h, h' => ⟨h.1, EntL.app h.2 h'⟩
  | [], _ :: _, _, _, h, _ => h.elim
  | _ :: _, [], _, _, h, _ => h.elim
theorem u8c_at {g : Nat → Int} {j : Nat} (h : j < 32) : intOfAV (atL (u8c g) j) = g j := congrArg intOfAV (atL_map_range (es := 32) (g := fun j => AV.int .u8 (g j)) h)


def add32 (x y : Int) : Int := IntKind.wrap .u32 (x + y)
def xorW (x y : Int) : Int := IntKind.wrap .u32 ((BitVec.ofInt 32 x ^^^ BitVec.ofInt 32 y).toNat : Nat)
def andW (x y : Int) : Int := IntKind.wrap .u32 ((BitVec.ofInt 32 x &&& BitVec.ofInt 32 y).toNat : Nat)
def notW (x : Int) : Int := IntKind.wrap .u32 ((BitVec.ofInt 32 4294967295 ^^^ BitVec.ofInt 32 x).toNat : Nat)
def shrW (x : Int) (n : Nat) : Int := x / 2 ^ n
def rotr (x : Int) (n : Nat) : Int := IntKind.wrap .u32 ((BitVec.ofInt 32 (x / 2 ^ n) ||| BitVec.ofInt 32 (IntKind.wrap .u32 (x * 2 ^ (32 - n)))).toNat : Nat)


theorem or_comm32 (a b : Int) : IntKind.wrap .u32 ((BitVec.ofInt 32 a ||| BitVec.ofInt 32 b).toNat : Nat) = IntKind.wrap .u32 ((BitVec.ofInt 32 b ||| BitVec.ofInt 32 a).toNat : Nat) := by grind
theorem mask5 : ∀ n : Fin 32, 0 < n.val → IntKind.wrap .u64 ((BitVec.ofInt 64 (IntKind.wrap .u64 (IntKind.wrap .i64 (0 - (n.val : Int)))) &&& BitVec.ofInt 64 31).toNat : Nat) = ((32 - n.val : Nat) : Int) := by decide +kernel
theorem mask5n {n : Nat} (h0 : 0 < n) (h : n < 32) : IntKind.wrap .u64 ((BitVec.ofInt 64 (IntKind.wrap .u64 (IntKind.wrap .i64 (0 - (n : Int)))) &&& BitVec.ofInt 64 31).toNat : Nat) = ((32 - n : Nat) : Int) := mask5 ⟨n, h⟩ h0
def be8 (n : Int) (i : Nat) : Int := n / 2 ^ (56 - 8 * i) % 256
abbrev bys (n : Nat) (f : Nat → Int) : AV := .isl 1 n (fun i _ => .int .u8 (f i))

theorem ex8 {i : Nat} (h : i < 8) : min (Int.toNat (IntKind.wrap .i64 (56 - IntKind.wrap .i64 (8 * (i : Int))))) 64 = 56 - 8 * i := by grind [wI,Int]
theorem be8_w {n : Int} {i : Nat} (h : i < 8) : IntKind.wrap .u8 (Int.fdiv n (2 ^ min (Int.toNat (IntKind.wrap .i64 (56 - IntKind.wrap .i64 (8 * (i : Int))))) 64)) = be8 n i := by
  rw [ex8 h, wu8m, shr_eq]; rfl
theorem be8_v {n : Int} {i : Nat} (h : i < 8) : IntKind.wrap .u8 (Int.fdiv n (2 ^ min (Int.toNat (IntKind.wrap .i64 (8 * (7 - (i : Int))))) 64)) = be8 n i := by
  rw [wI (by omega) (by omega), show min (Int.toNat (8 * (7 - (i : Int)))) 64 = 56 - 8 * i by omega, wu8m, shr_eq]; rfl
theorem bys_eq {os : List (Option Ob)} {n n' : Nat} {f g : Nat → Nat → Int} (hn : n = n') (h : ∀ i, i < n → f i 0 = g i 0) : Ent os (.isl 1 n fun i j => .int .u8 (f i j)) (.isl 1 n' fun i j => .int .u8 (g i j)) := by
  refine Ent.islN hn fun i j hi hj => ?_
  obtain rfl : j = 0 := Nat.lt_one_iff.1 hj
  exact congrArg _ (h i hi)

def preB (b : Nat → Int) (i : Nat) : Nat → Int
  | 0 => 0
  | k + 1 => preB b i k * 256 + b (4 * i + k)
def be4 (b : Nat → Int) (i : Nat) : Int := preB b i 4
def sg0 (x : Int) : Int := xorW (xorW (rotr x 7) (rotr x 18)) (shrW x 3)
def sg1 (x : Int) : Int := xorW (xorW (rotr x 17) (rotr x 19)) (shrW x 10)
def wordF (b : Nat → Int) (j : Nat) : Int :=
  if h : j < 16 then be4 b j
  else add32 (add32 (add32 (wordF b (j - 16)) (sg0 (wordF b (j - 15)))) (wordF b (j - 7))) (sg1 (wordF b (j - 2)))
termination_by j
decreasing_by all_goals omega
theorem word_lo {b : Nat → Int} {j : Nat} (h : j < 16) : wordF b j = be4 b j := by rw [wordF, dif_pos h]
theorem word_hi {b : Nat → Int} {j : Nat} (h : 16 ≤ j) : wordF b j = add32 (add32 (add32 (wordF b (j - 16)) (sg0 (wordF b (j - 15)))) (wordF b (j - 7))) (sg1 (wordF b (j - 2))) := by rw [wordF, dif_neg (by omega)]

def S1 (e : Int) : Int := xorW (xorW (rotr e 6) (rotr e 11)) (rotr e 25)
def S0 (a : Int) : Int := xorW (xorW (rotr a 2) (rotr a 13)) (rotr a 22)
def chF (e f g : Int) : Int := xorW (andW e f) (andW (notW e) g)
def majF (a b c : Int) : Int := xorW (xorW (andW a b) (andW a c)) (andW b c)
def rX (v w : Nat → Int) (t : Nat) : Int := add32 (add32 (add32 (add32 (v 7) (S1 (v 4))) (chF (v 4) (v 5) (v 6))) (kF t)) (w t)
def rY (v : Nat → Int) : Int := add32 (S0 (v 0)) (majF (v 0) (v 1) (v 2))
def roundF (s w : Nat → Int) : Nat → Nat → Int
  | 0, i => s i
  | t + 1, i => match i with
    | 0 => add32 (rX (roundF s w t) w t) (rY (roundF s w t))
    | 4 => add32 (roundF s w t 3) (rX (roundF s w t) w t)
    | j + 1 => roundF s w t j
def mixF (s b : Nat → Int) (i : Nat) : Int := add32 (s i) (roundF s (wordF b) 64 i)
def byB (b : Nat → Int) (n : Nat) : Prop := ∀ i, i < n → 0 ≤ b i ∧ b i < 256
theorem pre_bnd {b : Nat → Int} {i : Nat} (h : ∀ k, k < 4 → 0 ≤ b (4 * i + k) ∧ b (4 * i + k) < 256) : ∀ k, k ≤ 4 → 0 ≤ preB b i k ∧ preB b i k < 256 ^ k
  | 0, _ => by simp [preB]
  | k + 1, hk => by
    have h1 := pre_bnd h k (by omega)
    grind [preB,Int.pow_succ]
theorem pre_step {x c : Int} (h0 : 0 ≤ x) (h1 : x < 16777216) (h2 : 0 ≤ c) (h3 : c < 256) : IntKind.wrap .u32 ((BitVec.ofInt 32 (IntKind.wrap .u32 (x * 2 ^ 8)) ||| BitVec.ofInt 32 (IntKind.wrap .u32 c)).toNat : Nat) = x * 256 + c := by
  obtain ⟨n, rfl⟩ := Int.eq_ofNat_of_zero_le h0
  obtain ⟨m, rfl⟩ := Int.eq_ofNat_of_zero_le h2
  have e : ((n : Int) * 2 ^ 8) = ((n * 2 ^ 8 : Nat) : Int) := by omega
  rw [wu32 (n := (m : Int)) (by omega) (by omega), e, wu32 (n := ((n * 2 ^ 8 : Nat) : Int)) (by omega) (by omega), orN (by omega) (by omega), ← Nat.shiftLeft_eq, ← Nat.shiftLeft_add_eq_or_of_lt (show m < 2 ^ 8 by omega), Nat.shiftLeft_eq, wu32 (by omega) (by omega)]
  omega

theorem join_ob {os : List (Option Ob)} {f g : Nat → Int} {n : Nat} : ObEnt os ⟨1, 0 + n, true, .fn fun i _ => .int .u8 (f i)⟩ ⟨1, n + 0, true, .fn fun i _ => .int .u8 (bif Nat.blt i n then f i else g (i - n))⟩ :=
  ⟨rfl, by simp, rfl, fun i j hi _ => Ent.of_eq (by have hi : i < 0 + n := hi; show AV.int .u8 (f i) = .int .u8 (bif Nat.blt i n then f i else g (i - n)); grind [blt_t])⟩

theorem w4 {i : Nat} (h : i < 16) : IntKind.wrap .i64 (4 * (i : Int)) = 4 * i ∧ IntKind.wrap .i64 (4 * (i : Int) + 4) = 4 * i + 4 := ⟨wI (by omega) (by omega), wI (by omega) (by omega)⟩
theorem zero_ob {os : List (Option Ob)} {G : Nat → Int} (h : ∀ j, G j = 0) : ObEnt os ⟨64, 1, true, .lst [(List.range 64).map fun _ => .int .u32 0]⟩ ⟨64, 1, true, .fn fun _ j => .int .u32 (G j)⟩ := ObEnt.rowR (by grind)

theorem pre_b24 {b : Nat → Int} {i k : Nat} (hb : byB b 64) (hi : i < 16) (hk : k < 4) : 0 ≤ preB b i k ∧ preB b i k < 16777216 := by
  have h := pre_bnd (b := b) (i := i) (fun q hq => hb _ (by omega)) k (by omega)
  match k, hk, h with
  | 0, _, h | 1, _, h | 2, _, h | 3, _, h => omega
theorem back_w {t : Nat} {d : Int} {k : Nat} (h : d = k) (hk : k ≤ 16 + t) (ht : t < 1000) : Int.toNat (IntKind.wrap .i64 (((16 + t : Nat) : Int) - d)) = 16 + t - k := by grind [wI]

structure Rnd (s w : Nat → Int) (R : Nat → Nat → Int) : Prop where
  z : ∀ i, R 0 i = s i
  s0 : ∀ t, R (t + 1) 0 = add32 (rX (R t) w t) (rY (R t))
  s1 : ∀ t, R (t + 1) 1 = R t 0
  s2 : ∀ t, R (t + 1) 2 = R t 1
  s3 : ∀ t, R (t + 1) 3 = R t 2
  s4 : ∀ t, R (t + 1) 4 = add32 (R t 3) (rX (R t) w t)
  s5 : ∀ t, R (t + 1) 5 = R t 4
  s6 : ∀ t, R (t + 1) 6 = R t 5
  s7 : ∀ t, R (t + 1) 7 = R t 6
theorem rnd (s w : Nat → Int) : Rnd s w (roundF s w) := ⟨fun _ => rfl, fun _ => rfl, fun _ => rfl, fun _ => rfl, fun _ => rfl, fun _ => rfl, fun _ => rfl, fun _ => rfl, fun _ => rfl⟩

def padLen (n : Nat) : Nat := ((n + 8) / 64 + 1) * 64
def pad0 (n : Nat) (f : Nat → Int) (i : Nat) : Int := bif Nat.blt i n then f i else bif Nat.beq i n then 128 else 0
def padF (n : Nat) (f : Nat → Int) (i : Nat) : Int := bif Nat.blt i (padLen n - 8) then pad0 n f i else be8 (8 * (n : Int)) (i - (padLen n - 8))
def stateF (p : Nat → Int) : Nat → Nat → Int
  | 0 => stF
  | k + 1 => mixF (stateF p k) (fun i => p (64 * k + i))
def outF (v : Nat → Int) (j : Nat) : Int := v (j / 4) / 2 ^ (24 - 8 * (j % 4)) % 256
def shaF (n : Nat) (f : Nat → Int) : Nat → Int := outF (stateF (padF n f) (padLen n / 64))
theorem pad_len (n : Nat) : padLen n % 64 = 0 ∧ n + 9 ≤ padLen n ∧ padLen n < n + 73 := by grind [padLen]
theorem pad_end {n z : Nat} (h : n + 1 + z + 8 = padLen n) : (n + 1 + z) % 64 = 56 := by grind [pad_len]
theorem pad_more {n z : Nat} (h : n + 1 + z + 8 < padLen n) : (n + 1 + z) % 64 ≠ 56 := by grind [pad_len]
theorem pad_by {n : Nat} {f : Nat → Int} (hf : byB f n) (i : Nat) : 0 ≤ padF n f i ∧ padF n f i < 256 := by
  unfold padF
  by_cases h : i < padLen n - 8
  · rw [blt_t h]
    show 0 ≤ pad0 n f i ∧ pad0 n f i < 256
    unfold pad0
    by_cases h1 : i < n
    · rw [blt_t h1]; exact hf i h1
    grind [blt_f,Nat.beq_refl,Int,beq_f]
  grind [blt_f,be8]

theorem pad0_lo {n : Nat} {f : Nat → Int} {i : Nat} (h : i < n) : pad0 n f i = f i := by grind [pad0,blt_t]
theorem pad0_at (n : Nat) (f : Nat → Int) : pad0 n f n = 128 := by simp [pad0,blt_f,Nat.beq_refl]
theorem pad0_z {n : Nat} {f : Nat → Int} {i : Nat} (h : n < i) : pad0 n f i = 0 := by grind [pad0,blt_f,beq_f]
theorem pad_ob {os : List (Option Ob)} {n : Nat} {f : Nat → Int} : ObEnt os ⟨1, n + 1, true, .fn fun i j => .int .u8 (bif Nat.blt i n then f i else intOfAV (atL [.int .u8 128] j))⟩ ⟨1, n + 1 + 0, true, .fn fun i _ => .int .u8 (pad0 n f i)⟩ :=
  ⟨rfl, rfl, rfl, fun i j hi hj => Ent.of_eq (by
    obtain rfl : j = 0 := Nat.lt_one_iff.1 hj
    have hi : i < n + 1 := hi
    show AV.int .u8 (bif Nat.blt i n then f i else 128) = .int .u8 (pad0 n f i)
    by_cases e : i < n
    · grind [blt_t,pad0_lo]
    · obtain rfl : i = n := by omega
      simp [blt_f,pad0_at])⟩
theorem pad_fin {n x : Nat} (hx : x ≤ padLen n - n - 9) (g : Int.tmod ((n + 1 + x : Nat) : Int) 64 = 56) : n + 1 + x + 8 = padLen n := by grind [pad_len,padLen,pad_more,tmod_nn]
theorem pad_lt {n x : Nat} (hx : x ≤ padLen n - n - 9) (g : ¬ Int.tmod ((n + 1 + x : Nat) : Int) 64 = 56) : x + 1 ≤ padLen n - n - 9 := by grind [pad_len,padLen,pad_end,tmod_nn]
theorem pad_ob2 {os : List (Option Ob)} {n x : Nat} {f : Nat → Int} (hn : n ≤ 1099511627776) (h : n + 1 + x + 8 = padLen n) : ObEnt os ⟨1, n + 1 + x + 8, true, .fn fun i _ => .int .u8 (bif Nat.blt i (n + 1 + x) then pad0 n f i else be8 (IntKind.wrap .u64 (8 * IntKind.wrap .u64 (n : Int))) (i - (n + 1 + x)))⟩ ⟨1, padLen n, true, .fn fun i _ => .int .u8 (padF n f i)⟩ :=
  ObEnt.fnF h fun i _ => by grind [wu64,Int,padF]
theorem out_w {v : Nat → Int} {i k : Nat} (hk : k < 4) (hi : i < 8) : IntKind.wrap .u8 (Int.fdiv (v i) (2 ^ min (Int.toNat (IntKind.wrap .i64 (24 - IntKind.wrap .i64 (8 * (k : Int))))) 32)) = outF v (4 * i + k) := by grind [wI,Int,min,Int.toNat,wu8m,shr_eq,outF]
theorem w4k {i k : Nat} (h : i < 16) (hk : k ≤ 4) : IntKind.wrap .i64 (IntKind.wrap .i64 (4 * (i : Int)) + (k : Int)) = 4 * i + k := by grind [wI,Int]
theorem zero_ob32 {os : List (Option Ob)} {G : Nat → Int} (h : ∀ j, G j = 0) : ObEnt os ⟨32, 1, true, .lst [(List.range 32).map fun _ => .int .u8 0]⟩ ⟨32, 1, true, .fn fun _ j => .int .u8 (G j)⟩ := ObEnt.rowR (by grind)

theorem pre_add {x c : Int} (h0 : 0 ≤ x) (h1 : x < 16777216) (h2 : 0 ≤ c) (h3 : c < 256) : IntKind.wrap .u32 (IntKind.wrap .u32 (x * 256) + IntKind.wrap .u32 c) = x * 256 + c := by grind [wu32]
theorem st_ob {os : List (Option Ob)} {mu : Bool} {G : Nat → Int} (h : G = stF) : ObEnt os ⟨1, 8, mu, .lst (stL.map fun x => [.int .u32 x])⟩ ⟨1, 8, mu, .fn fun i _ => .int .u32 (G i)⟩ := by
  subst h
  refine lst_fn fun i j hi hj => ?_
  obtain rfl : j = 0 := Nat.lt_one_iff.1 hj
  exact getD_rows (l := stL) hi

theorem pad_eq {n x : Nat} {f : Nat → Int} (h : n + 1 + x + 8 = padLen n) (i : Nat) : (bif Nat.blt (i + 0) (n + 1 + x) then pad0 n f (i + 0) else be8 (8 * (n : Int)) (i + 0 - (n + 1 + x))) = padF n f i := by grind [padF]
theorem w64 {n k : Nat} (hn : n ≤ 1099511627776) (h : k < padLen n / 64) : IntKind.wrap .i64 (((64 * k : Nat) : Int) + 64) = ((64 * (k + 1) : Nat) : Int) := by grind [pad_len,wI]

theorem pre_congr {a b : Nat → Int} {i : Nat} (h : ∀ k, k < 4 → a (4 * i + k) = b (4 * i + k)) : ∀ k, k ≤ 4 → preB a i k = preB b i k
  | 0, _ => rfl
  | k + 1, hk => by unfold preB; rw [pre_congr h k (by omega), h k (by omega)]
theorem word_congr {a b : Nat → Int} (h : ∀ i, i < 64 → a i = b i) (j : Nat) : wordF a j = wordF b j := by
  induction j using Nat.strongRecOn with
  | _ j ih =>
    by_cases hj : j < 16
    · rw [word_lo hj, word_lo hj]
      exact pre_congr (fun k hk => h _ (by omega)) 4 (Nat.le_refl _)
    grind [word_hi]
theorem rnd_ob {os : List (Option Ob)} {s w : Nat → Int} {R : Nat → Nat → Int} (h : Rnd s w R) {t : Nat} {a e : Int} (ha : a = R (t + 1) 0) (he : e = R (t + 1) 4) :
    ObEnt os ⟨1, 8, true, .lst [[.int .u32 a], [.int .u32 (R t 0)], [.int .u32 (R t 1)], [.int .u32 (R t 2)], [.int .u32 e], [.int .u32 (R t 4)], [.int .u32 (R t 5)], [.int .u32 (R t 6)]]⟩ ⟨1, 8, true, .fn fun i _ => .int .u32 (R (t + 1) i)⟩ :=
  lst_fn fun i j hi hj => by
    obtain rfl : j = 0 := Nat.lt_one_iff.1 hj
    match i, hi with
    | 0, _ => exact congrArg _ ha
    | 1, _ => exact congrArg _ (h.s1 t).symm
    | 2, _ => exact congrArg _ (h.s2 t).symm
    | 3, _ => exact congrArg _ (h.s3 t).symm
    | 4, _ => exact congrArg _ he
    | 5, _ => exact congrArg _ (h.s5 t).symm
    | 6, _ => exact congrArg _ (h.s6 t).symm
    | 7, _ => exact congrArg _ (h.s7 t).symm

theorem q4 {i : Nat} (h : i < 32) : IntKind.wrap .i64 (Int.tdiv (i : Int) 4) = ((i / 4 : Nat) : Int) ∧ IntKind.wrap .i64 (24 - IntKind.wrap .i64 (8 * Int.tmod (i : Int) 4)) = ((24 - 8 * (i % 4) : Nat) : Int) := by grind [tdiv_nn,tmod_nn,wI,Int]
theorem out_v {v : Nat → Int} {i : Nat} (h : i < 32) : IntKind.wrap .u8 (Int.fdiv (v (Int.toNat (IntKind.wrap .i64 (Int.tdiv (i : Int) 4)) + 0)) (2 ^ min (Int.toNat (IntKind.wrap .i64 (24 - IntKind.wrap .i64 (8 * Int.tmod (i : Int) 4)))) 32)) = outF v i := by
  rw [(q4 h).1, (q4 h).2, Int.toNat_natCast, Int.toNat_natCast, Nat.min_eq_left (by omega), wu8m, shr_eq]
  rfl


def strF (s : ByteArray) (i : Nat) : Int := (s.data.toList.getD i 0).toNat
def tagC (t f : Nat → Int) (i : Nat) : Int := bif Nat.blt i 64 then bif Nat.blt i 32 then t i else t (i - 32) else f (i - 64)
def tagF (s : ByteArray) (n : Nat) (f : Nat → Int) : Nat → Int := shaF (64 + n) (tagC (shaF s.size (strF s)) f)

theorem strBy (s : ByteArray) (n : Nat) : byB (strF s) n := fun i _ => by
  have := (s.data.toList.getD i 0).toNat_lt
  grind [strF]
theorem sha_by (n : Nat) (f : Nat → Int) (i : Nat) : 0 ≤ shaF n f i ∧ shaF n f i < 256 := by simp [shaF,outF,Int.emod_nonneg,Int.emod_lt_of_pos]
theorem tag_by (s : ByteArray) (n : Nat) (f : Nat → Int) (hf : byB f n) : byB (tagC (shaF s.size (strF s)) f) (64 + n) := fun i hi => by
  unfold tagC
  by_cases h : i < 64
  · rw [blt_t h]
    cases Nat.blt i 32 <;> simp_all [sha_by]
  · rw [blt_f (Nat.le_of_not_lt h)]
    exact hf _ (by omega)
theorem sha_congr {n : Nat} {f g : Nat → Int} (h : ∀ i, i < n → f i = g i) : shaF n f = shaF n g := by
  have e : padF n f = padF n g := funext fun i => by grind [pad0,blt_f,Nat.le_of_not_lt,padF]
  grind [shaF]
theorem tag_at {t f : Nat → Int} (i : Nat) : (bif Nat.blt (i + 0) 64 then bif Nat.blt (i + 0) 32 then intOfAV (atL (u8c t) (0 + (0 + (i + 0)))) else intOfAV (atL (u8c t) (0 + (0 + (i + 0 - 32)))) else f (i + 0 - 64)) = tagC t f i := by
  unfold tagC
  rw [Nat.add_zero]
  by_cases h : i < 64
  · rw [blt_t h]
    by_cases h' : i < 32
    · simp_all [blt_t,Nat.zero_add,u8c_at]
    · have e := u8c_at (g := t) (show i - 32 < 32 by omega)
      simp_all [blt_f,Nat.zero_add]
  grind [blt_f,Nat.le_of_not_lt]
theorem by_congr {f g : Nat → Int} {n : Nat} (h : ∀ i, f i = g i) (hg : byB g n) : byB f n := fun i hi => by
  rw [h i]
  exact hg i hi

def numB (n : Int) (size i : Nat) : Int := n / 256 ^ (size - 1 - i) % 256
def numT (n : Int) (size t i : Nat) : Int := bif Nat.blt i (size - t) then 0 else numB n size i
theorem num_z {n : Int} {size i j : Nat} (hi : i < size) (hj : j < 1) : intOfAV (atL (zcells (.int .u8 0)) j) = numT n size 0 i := by
  obtain rfl : j = 0 := Nat.lt_one_iff.1 hj
  unfold numT
  rw [blt_t (by omega)]
  rfl
theorem num_full {n : Int} {size t i : Nat} (h : size ≤ t) : numT n size t i = numB n size i := by grind [numT,blt_f]
theorem num_q {n : Int} (h0 : 0 ≤ n) (t : Nat) : Int.tdiv (n / 256 ^ t) 256 = n / 256 ^ (t + 1) := by grind [Int.ediv_nonneg,Int.pow_nonneg,tdiv_nn,Int.pow_succ,Int.ediv_ediv_of_nonneg]
theorem num_qw {n : Int} (h0 : 0 ≤ n) (hn : n < 18446744073709551616) (t : Nat) : IntKind.wrap .u64 (Int.tdiv (n / 256 ^ t) 256) = n / 256 ^ (t + 1) := by
  have h1 : 0 ≤ n / 256 ^ (t + 1) := Int.ediv_nonneg h0 (Int.pow_nonneg (by omega))
  have h2 : n / 256 ^ (t + 1) ≤ n := Int.ediv_le_self _ h0
  grind [num_q,wu64]
theorem num_s {n : Int} {size t i j : Nat} (h0 : 0 ≤ n) (ht : t < size) (hj : j < 1) :
    (bif Nat.beq i (Int.toNat ((size : Int) - 1 - t) + 0) && (Nat.ble 0 j && Nat.blt j 1) then IntKind.wrap .u8 (Int.tmod (n / 256 ^ t) 256) else numT n size t i) = numT n size (t + 1) i := by
  obtain rfl : j = 0 := Nat.lt_one_iff.1 hj
  have h : 0 ≤ n / 256 ^ t := Int.ediv_nonneg h0 (Int.pow_nonneg (by omega))
  have e : Int.toNat ((size : Int) - 1 - t) + 0 = size - 1 - t := by omega
  rw [e]
  by_cases hi : i = size - 1 - t
  · subst hi
    have e2 : size - 1 - (size - 1 - t) = t := by omega
    rw [Nat.beq_refl]
    show IntKind.wrap .u8 (Int.tmod (n / 256 ^ t) 256) = bif Nat.blt (size - 1 - t) (size - (t + 1)) then 0 else n / 256 ^ (size - 1 - (size - 1 - t)) % 256
    grind [blt_f,wu8m,tmod_nn]
  · have hb : Nat.beq i (size - 1 - t) = false := by grind [Nat.beq,absurd,Nat.eq_of_beq_eq_true]
    rw [hb]
    show (bif Nat.blt i (size - t) then 0 else numB n size i) = (bif Nat.blt i (size - (t + 1)) then 0 else numB n size i)
    grind [blt_t,blt_f,Nat.le_of_not_lt]
end Go.Sp

namespace Go.Sp
open Go Go.Am

def nbL (v : Int) (size : Nat) : List Int := (List.range size).map (numB v size)
theorem nbL_len (v : Int) (size : Nat) : (nbL v size).length = size := by simp [nbL]
theorem getD_app (a b : List Int) (i : Nat) : (a ++ b).getD i 0 = bif Nat.blt i a.length then a.getD i 0 else b.getD (i - a.length) 0 := by grind [blt_t,blt_f,Nat.le_of_not_lt]
theorem getD_map {n : Nat} {f : Nat → Int} {i : Nat} (h : i < n) : ((List.range n).map f).getD i 0 = f i := by grind

inductive It where
  | int (n : Int)
  | byt (n : Nat) (f : Nat → Int)
  | li (n : Nat) (c : Nat → It)
namespace It
def kind : It → Int | int _ => 1 | byt _ _ => 2 | li _ _ => 3
def num : It → Int | int n => n | _ => 0
def nb : It → Nat | byt n _ => n | _ => 0
def fb : It → Nat → Int | byt _ f => f | _ => fun _ => 0
def nl : It → Nat | li n _ => n | _ => 0
def row : It → Nat → Nat → AV
  | li _ c => fun i j => atL [.int .i64 (c i).kind, .int .i64 (c i).num, bys (c i).nb (c i).fb, .isl 4 (c i).nl (row (c i))] j
  | _ => fun _ _ => .junk
def cells (x : It) : List AV := [.int .i64 x.kind, .int .i64 x.num, bys x.nb x.fb, .isl 4 x.nl x.row]
def av (x : It) : AV := .agg x.cells
def sl (n : Nat) (c : Nat → It) : AV := .isl 4 n (fun i j => atL (c i).cells j)

def enc : It → List Int
  | int n => 1 :: nbL (IntKind.wrap .u64 n) 8
  | byt n f => 2 :: (nbL n 4 ++ (List.range n).map f)
  | li n c => 3 :: (nbL n 4 ++ (List.range n).flatMap fun i => enc (c i))
def okD : It → Int → Bool
  | li n c, d => decide (0 < d) && Nat.ble n 1000 && (List.range n).all (fun i => okD (c i) (d - 1))
  | _, _ => true
def encP (n : Nat) (c : Nat → It) (k : Nat) : List Int := 3 :: (nbL n 4 ++ (List.range k).flatMap fun i => (c i).enc)
theorem enc_li (n : Nat) (c : Nat → It) : (li n c).enc = encP n c n := rfl
theorem encP_zero (n : Nat) (c : Nat → It) : encP n c 0 = 3 :: nbL n 4 := by rfl
theorem encP_succ (n : Nat) (c : Nat → It) (k : Nat) : encP n c (k + 1) = encP n c k ++ (c k).enc := by
  simp [encP, List.range_succ]
theorem encP_le (n : Nat) (c : Nat → It) {k j : Nat} (h : k ≤ j) : (encP n c k).length ≤ (encP n c j).length := by
  induction j with
  | zero => grind
  | succ j ih =>
    by_cases e : k = j + 1
    · grind
    grind [encP_succ,List.length_append]
theorem enc_pos (x : It) : 1 ≤ x.enc.length := by cases x <;> simp [enc]
theorem encP_len (n : Nat) (c : Nat → It) (k : Nat) : 5 + k ≤ (encP n c k).length := by induction k <;> grind [encP,nbL_len,enc_pos,encP_succ,List.length_append]
theorem enc_child {n : Nat} {c : Nat → It} {i : Nat} (h : i < n) : (c i).enc.length + 5 ≤ (li n c).enc.length := by
  have h1 := encP_le n c (show i + 1 ≤ n by omega)
  grind [encP_len,encP_succ,List.length_append,enc_li]
end It
end Go.Sp
namespace Go.Sp
open Go Go.Am
namespace It
def okB : It → Prop
  | int _ => True
  | byt n f => byB f n
  | li n c => ∀ i, i < n → okB (c i)
def inB (l : List Int) : Prop := ∀ v, v ∈ l → 0 ≤ v ∧ v < 256
theorem inB_cons {v : Int} {l : List Int} (h : 0 ≤ v ∧ v < 256) (h' : inB l) : inB (v :: l) := fun x hx => by
  rcases List.mem_cons.1 hx with e | e
  · omega
  · exact h' x e
theorem inB_app {a b : List Int} (h : inB a) (h' : inB b) : inB (a ++ b) := fun x hx => by
  rcases List.mem_append.1 hx with e | e
  · exact h x e
  · exact h' x e
theorem inB_nb (v : Int) (size : Nat) : inB (nbL v size) := fun x hx => by
  obtain ⟨i, _, rfl⟩ := List.mem_map.1 hx
  exact ⟨Int.emod_nonneg _ (by decide), Int.emod_lt_of_pos _ (by decide)⟩
theorem inB_by {l : List Int} (h : inB l) : byB (fun i => l.getD i 0) l.length := fun i hi => by
  have e : l.getD i 0 = l[i] := by grind
  show 0 ≤ l.getD i 0 ∧ l.getD i 0 < 256
  rw [e]
  exact h _ (List.getElem_mem hi)
theorem enc_inB : ∀ x : It, x.okB → inB x.enc
  | int n, _ => inB_cons (by decide) (inB_nb _ _)
  | byt n f, h => inB_cons (by decide) (inB_app (inB_nb _ _) fun x hx => by
      obtain ⟨i, hi, rfl⟩ := List.mem_map.1 hx
      exact h i (List.mem_range.1 hi))
  | li n c, h => inB_cons (by decide) (inB_app (inB_nb _ _) fun x hx => by
      obtain ⟨i, hi, hx⟩ := List.mem_flatMap.1 hx
      exact enc_inB (c i) (h i (List.mem_range.1 hi)) x hx)
theorem enc_by {x : It} (h : x.okB) : byB (fun i => x.enc.getD i 0) x.enc.length := inB_by (enc_inB x h)
end It

structure Coin where
  bank : Int
  epoch : Int
  denom : Int
  depth : Int
  a : Int
  root : Nat → Int
  z : Int
  sa : Int
  sb : Int
  r : Int
def Coin.cells (c : Coin) : List AV := [.int .i64 c.bank, .int .i64 c.epoch, .int .i64 c.denom, .int .i64 c.depth, .int .i64 c.a] ++ (u8c c.root ++ [.int .i64 c.z, .int .i64 c.sa, .int .i64 c.sb, .int .i64 c.r])
def Coin.av (c : Coin) : AV := .agg c.cells
structure Cxt where
  payee : Nat → Int
  time : Int
  number : Int
def Cxt.cells (x : Cxt) : List AV := u8c x.payee ++ [.int .i64 x.time, .int .i64 x.number]
def Cxt.av (x : Cxt) : AV := .agg x.cells
def intsI (l : List Int) : It := .li l.length fun i => .int (l.getD i 0)
def lsI (l : List It) : It := .li l.length fun i => l.getD i (.int 0)
def Coin.it (c : Coin) : It := lsI [intsI [c.bank, c.epoch, c.denom, c.depth, c.a], .byt 32 c.root, intsI [c.z, c.sa, c.sb, c.r]]
def tagI (s : ByteArray) (x : It) : Nat → Int := tagF s x.enc.length fun i => x.enc.getD i 0
end Go.Sp
namespace Go.Sp
open Go Go.Am
theorem il_eq {os : List (Option Ob)} {n : Nat} {f : Nat → Nat → Int} {l : List Int} (hn : n = l.length) (h : ∀ i, i < n → f i 0 = l.getD i 0) : Ent os (.isl 1 n fun i j => .int .u8 (f i j)) (il .u8 l) :=
  bys_eq (g := fun i _ => l.getD i 0) hn h
theorem obl_eq {os : List (Option Ob)} {mu : Bool} {n : Nat} {f : Nat → Nat → Int} {l : List Int} (hn : n = l.length) (h : ∀ i, i < n → f i 0 = l.getD i 0) :
    ObEnt os ⟨1, n, mu, .fn fun i j => .int .u8 (f i j)⟩ ⟨1, l.length, mu, .fn (ilF .u8 l)⟩ := by
  refine ⟨rfl, hn, rfl, fun i j hi hj => Ent.of_eq ?_⟩
  obtain rfl : j = 0 := Nat.lt_one_iff.1 hj
  exact congrArg _ (h i hi)
theorem obl_app {os : List (Option Ob)} {mu : Bool} {n : Nat} {a b l : List Int} (hl : l = a ++ b) (hn : n = a.length + b.length) :
    ObEnt os ⟨1, n, mu, .fn fun i _ => .int .u8 (bif Nat.blt i a.length then a.getD i 0 else b.getD (i - a.length) 0)⟩ ⟨1, l.length, mu, .fn (ilF .u8 l)⟩ :=
  obl_eq (f := fun i _ => bif Nat.blt i a.length then a.getD i 0 else b.getD (i - a.length) 0) (by grind) (fun i _ => by rw [hl, getD_app])
theorem enc1 {v w : Int} {size i : Nat} (hi : i < 1 + size) : (bif Nat.blt i 1 then v else numB w size (i - 1)) = (v :: nbL w size).getD i 0 := by
  cases i with
  | zero => rfl
  | succ i =>
    grind [blt_f,numB,nbL,getD_map]
theorem enc2 {v w : Int} {n i : Nat} {f : Nat → Int} (hi : i < 5 + n) : (bif Nat.blt i 5 then bif Nat.blt i 1 then v else numB w 4 (i - 1) else f (i - 5)) = (v :: (nbL w 4 ++ (List.range n).map f)).getD i 0 := by grind [nbL,List.range,nbL_len,getD_app,blt_t,enc1,blt_f,Nat.le_of_not_lt,getD_map]
theorem wu64_by (n : Int) : 0 ≤ IntKind.wrap .u64 n ∧ IntKind.wrap .u64 n < 18446744073709551616 := by grind [wu64m]
theorem byt_len (n : Nat) (f : Nat → Int) : (It.byt n f).enc.length = 5 + n := by grind [It.enc,nbL_len]
theorem shr_num {v : Int} {size t : Nat} (ht : t < size) (h8 : size ≤ 8) : IntKind.wrap .u8 (v.fdiv (2 ^ min (Int.toNat (IntKind.wrap .i64 (8 * ((size : Int) - 1 - t)))) 64)) = numB v size t := by
  have e : min (Int.toNat (IntKind.wrap .i64 (8 * ((size : Int) - 1 - t)))) 64 = 8 * (size - 1 - t) := by grind [wI]
  rw [e, wu8m, Int.fdiv_eq_ediv_of_nonneg _ (Int.pow_nonneg (by decide))]
  show v / 2 ^ (8 * (size - 1 - t)) % 256 = v / 256 ^ (size - 1 - t) % 256
  simp [Int.pow_mul]
theorem numb_ob {os : List (Option Ob)} {mu : Bool} {n n' : Nat} {f : Nat → Nat → Int} {g : Nat → Int} (hn : n = n') : ObEnt os ⟨1, n, mu, .fn fun i j => .int .u8 (f i j)⟩ ⟨1, n', mu, .fn fun i j => .int .u8 (bif Nat.blt i n then f i j else g i)⟩ := by
  subst hn
  refine ⟨rfl, rfl, rfl, fun i j hi _ => Ent.of_eq ?_⟩
  have hi : i < n := hi
  show AV.int .u8 (f i j) = .int .u8 (bif Nat.blt i n then f i j else g i)
  grind [blt_t]
theorem numb_ob1 {os : List (Option Ob)} {mu : Bool} {n' : Nat} {b : Int} {g : Nat → Int} (hn : 1 = n') : ObEnt os ⟨1, 1, mu, .lst [[.int .u8 b]]⟩ ⟨1, n', mu, .fn fun i _ => .int .u8 (bif Nat.blt i 1 then b else g i)⟩ := by
  subst hn
  refine ⟨rfl, rfl, rfl, fun i j hi hj => Ent.of_eq ?_⟩
  obtain rfl : i = 0 := Nat.lt_one_iff.1 hi
  obtain rfl : j = 0 := Nat.lt_one_iff.1 hj
  rfl
theorem obl_cg {os : List (Option Ob)} {mu : Bool} {a b : List Int} (h : b = a) : ObEnt os ⟨1, a.length, mu, .fn (ilF .u8 a)⟩ ⟨1, b.length, mu, .fn (ilF .u8 b)⟩ := by
  subst h
  exact .refl _
theorem int_len (n : Int) : (It.int n).enc.length = 9 := by rfl
theorem wr_int (l : List Int) (n : Int) : l.length + 1 + 8 = (l ++ (It.int n).enc).length := by rw [List.length_append, int_len]
theorem wr_byt (l : List Int) (n : Nat) (f : Nat → Int) : l.length + 1 + 4 + n = (l ++ (It.byt n f).enc).length := by grind [List.length_append,byt_len]
end Go.Sp
namespace Go.Sp
open Go Go.Am
theorem numb_step {n k k' size : Nat} {v : Int} {y : Int} {i : Nat} (hk : k' = k + 1) (hi : i < n + k') {x : Int} (hx : x = numB v size k) :
    (bif Nat.blt i (n + k) then (bif Nat.blt i n then y else numB v size (i - n)) else x) = bif Nat.blt i n then y else numB v size (i - n) := by grind [blt_t,blt_f,Nat.le_of_not_lt,numB]
theorem numb_obs {os : List (Option Ob)} {mu : Bool} {n t size : Nat} {v X : Int} {f : Nat → Nat → Int} (hX : X = numB v size t) :
    ObEnt os ⟨1, n + t + 1, mu, .fn fun i j => .int .u8 (bif Nat.blt i (n + t) then (bif Nat.blt i n then f i j else numB v size (i - n)) else intOfAV (atL [.int .u8 X] j))⟩ ⟨1, n + (t + 1), mu, .fn fun i j => .int .u8 (bif Nat.blt i n then f i j else numB v size (i - n))⟩ := by
  refine ⟨rfl, rfl, rfl, fun i j hi hj => Ent.of_eq ?_⟩
  obtain rfl : j = 0 := Nat.lt_one_iff.1 hj
  exact congrArg (AV.int .u8) (numb_step (n := n) (k := t) (size := size) (v := v) (y := f i 0) rfl hi hX)
theorem wr1 {l : List Int} {v w : Int} {size i : Nat} (hi : i < l.length + 1 + size) :
    (bif Nat.blt i (l.length + 1) then (bif Nat.blt i l.length then l.getD i 0 else v) else numB w size (i - (l.length + 1))) = (l ++ (v :: nbL w size)).getD i 0 := by grind [nbL,getD_app,blt_t,blt_f,Nat.le_of_not_lt,numB,List.range,getD_map]
theorem wr2 {l : List Int} {v w : Int} {n i : Nat} {f : Nat → Int} (hi : i < l.length + 1 + 4 + n) :
    (bif Nat.blt i (l.length + 1 + 4) then (bif Nat.blt i (l.length + 1) then (bif Nat.blt i l.length then l.getD i 0 else v) else numB w 4 (i - (l.length + 1))) else f (i - (l.length + 1 + 4))) = (l ++ (v :: (nbL w 4 ++ (List.range n).map f))).getD i 0 := by
  have e : l ++ (v :: (nbL w 4 ++ (List.range n).map f)) = (l ++ (v :: nbL w 4)) ++ (List.range n).map f := by simp
  have hl : (l ++ (v :: nbL w 4)).length = l.length + 1 + 4 := by simp [nbL_len]
  rw [e, getD_app, hl]
  grind [blt_t,wr1,blt_f,Nat.le_of_not_lt,getD_map]
end Go.Sp
namespace Go.Sp
open Go Go.Am
theorem li_ok (d : Int) (n : Nat) (p : Nat → Bool) : (decide (d > 0) && decide ((n : Int) ≤ 1000) && !decide (firstI p n 0 ≥ 0)) = (decide (0 < d) && Nat.ble n 1000 && (List.range n).all fun i => !p i) := by
  have e1 : decide ((n : Int) ≤ 1000) = Nat.ble n 1000 := by
    rw [Bool.eq_iff_iff, Nat.ble_eq, decide_eq_true_eq]
    omega
  have e2 : (!decide (firstI p n 0 ≥ 0)) = (List.range n).all fun i => !p i := by simp [firstI_neg,List.not_any_eq_all_not,Nat.zero_add]
  grind
end Go.Sp
namespace Go.Sp
open Go Go.Am
theorem int_row {os : List (Option Ob)} {v w : Int} (h : v = w) : EntL os [.int .i64 1, .int .i64 v, .nsl, .nsl] (It.int w).cells := by subst h; exact ⟨Ent.refl _, Ent.refl _, Ent.nsl, Ent.nsl, trivial⟩
theorem byt_row {os : List (Option Ob)} (n : Nat) (f : Nat → Int) : EntL os [.int .i64 2, .int .i64 0, bys n f, .nsl] (It.byt n f).cells := ⟨Ent.refl _, Ent.refl _, Ent.refl _, Ent.nsl, trivial⟩
theorem int_push {os : List (Option Ob)} {mu : Bool} {l : List Int} {n n' : Nat} {v : Int} (hn : n' = n + 1) (h : v = l.getD n 0) :
    ObEnt os ⟨4, n + 1, mu, .cat n (.row fun i => (It.int (l.getD i 0)).cells) (.lst [[.int .i64 1, .int .i64 v, .nsl, .nsl]])⟩ ⟨4, n', mu, .row fun i => (It.int (l.getD i 0)).cells⟩ :=
  ObEnt.catRow (c := fun i => (It.int (l.getD i 0)).cells) (c' := fun i => (It.int (l.getD i 0)).cells) hn (fun _ _ => EntL.refl _) (int_row h)
theorem ints_out {os : List (Option Ob)} {l : List Int} {n : Nat} (h : n = l.length) : Ent os (.agg [.int .i64 3, .int .i64 0, .nsl, .isl 4 n fun r k => atL (It.int (l.getD r 0)).cells k]) (intsI l).av := by
  subst h
  exact Ent.agg ⟨Ent.refl _, Ent.refl _, Ent.nsl, Ent.refl _, trivial⟩
theorem il_rows {os : List (Option Ob)} {k : IntKind} {R : List (List AV)} {l : List Int} {n : Nat} (hn : n = l.length) (h : R = l.map fun v => [.int k v]) : Ent os (.isl 1 n fun r j => atL (R.getD r []) j) (il k l) := by
  subst hn
  refine Ent.isl fun i j hi hj => ?_
  obtain rfl : j = 0 := Nat.lt_one_iff.1 hj
  subst h
  simp [atL, ilF, List.getD_eq_getElem?_getD, hi]
end Go.Sp
namespace Go.Sp
open Go Go.Am
theorem byts_out {os : List (Option Ob)} {f : Nat → Int} {n : Nat} (h : n = 32) : Ent os (.agg [.int .i64 2, .int .i64 0, .isl 1 n fun i _ => .int .u8 (f i), .nsl]) (It.byt 32 f).av := by
  subst h
  exact Ent.agg (byt_row 32 f)
end Go.Sp
namespace Go.Sp
open Go Go.Am
theorem It.cl_ls : ∀ x : It, Cl (.isl 4 x.nl x.row)
  | .int _ => .isl (fun i j h => absurd h (Nat.not_lt_zero _))
  | .byt _ _ => .isl (fun i j h => absurd h (Nat.not_lt_zero _))
  | .li n c => .isl (fun i j _ hj => by
    have ih := It.cl_ls (c i)
    show Cl (atL [.int .i64 (c i).kind, .int .i64 (c i).num, bys (c i).nb (c i).fb, .isl 4 (c i).nl (It.row (c i))] j)
    match j, hj with
    | 0, _ => exact .int
    | 1, _ => exact .int
    | 2, _ => exact .isl (fun _ _ _ _ => .int)
    | 3, _ => exact ih)
theorem It.cl_at (x : It) (j : Nat) (hj : j < 4) : Cl (atL x.cells j) := by
  match j, hj with
  | 0, _ => exact .int
  | 1, _ => exact .int
  | 2, _ => exact .isl (fun _ _ _ _ => .int)
  | 3, _ => exact x.cl_ls
theorem li_out {os : List (Option Ob)} {R : List (List AV)} {L : List It} {n : Nat} (hn : n = L.length) (h : ∀ i, i < n → EntL os (R.getD i []) (L.getD i (.int 0)).cells) :
    Ent os (.agg [.int .i64 3, .int .i64 0, .nsl, .isl 4 n fun r k => atL (R.getD r []) k]) (lsI L).av := by
  subst hn
  exact Ent.agg ⟨Ent.refl _, Ent.refl _, Ent.nsl, Ent.islE (fun i j hi hj => ⟨Ent.atL (h i hi) j, It.cl_at _ j hj⟩), trivial⟩
theorem li4_out {os : List (Option Ob)} {a b c d : List AV} {x y z w : It} (ha : EntL os a x.cells) (hb : EntL os b y.cells) (hc : EntL os c z.cells) (hd : EntL os d w.cells) :
    Ent os (.agg [.int .i64 3, .int .i64 0, .nsl, .isl 4 4 fun r k => atL (List.getD [a, b, c, d] r []) k]) (lsI [x, y, z, w]).av :=
  li_out (L := [x, y, z, w]) rfl fun i hi => match i, hi with
    | 0, _ => ha
    | 1, _ => hb
    | 2, _ => hc
    | 3, _ => hd
end Go.Sp
namespace Go.Sp
open Go Go.Am
theorem intsI_okB (l : List Int) : (intsI l).okB := fun _ _ => trivial
theorem lsI_okB {L : List It} (h : ∀ x, x ∈ L → x.okB) : (lsI L).okB := fun i hi => by grind
theorem intsI_len (l : List Int) : (intsI l).enc.length = 5 + 9 * l.length := by
  have h : ∀ (c : Nat → It) (k : Nat), (∀ i, (c i).enc.length = 9) → ∀ n, (It.encP n c k).length = 5 + 9 * k := fun c k hc n => by induction k <;> grind [It.encP_zero,nbL_len,It.encP_succ,List.length_append]
  exact h _ _ (fun i => int_len _) _
theorem li4_len {x y z w : It} : (lsI [x, y, z, w]).enc.length = 5 + x.enc.length + y.enc.length + z.enc.length + w.enc.length := by
  show (It.encP 4 _ (0 + 1 + 1 + 1 + 1)).length = _
  grind [It.encP_succ,It.encP_zero,nbL_len]
theorem tagI_by (s : ByteArray) (x : It) (n : Nat) : byB (tagI s x) n := fun i _ => sha_by _ _ i
end Go.Sp

namespace Go.Sp
open Go Go.Am

theorem inv_uniq {a m x y : Int} (hx : 0 ≤ x ∧ x < m) (hy : 0 ≤ y ∧ y < m) (h1 : m ∣ a * x - 1) (h2 : m ∣ a * y - 1) : x = y := by
  have h : m ∣ x - y := by
    obtain ⟨k, hk⟩ := h1
    obtain ⟨j, hj⟩ := h2
    refine ⟨x * j * (-1) + y * k, ?_⟩
    have e1 : a * x * y = (1 + m * k) * y := by rw [← hk]; grind
    have e2 : a * y * x = (1 + m * j) * x := by rw [← hj]; grind
    grind
  have e := Int.emod_eq_emod_iff_emod_sub_eq_zero.2 (Int.emod_eq_zero_of_dvd h)
  rwa [Int.emod_eq_of_lt hx.1 hx.2, Int.emod_eq_of_lt hy.1 hy.2] at e

open Classical in
noncomputable def invF (a m : Int) : Int := if h : ∃ x, (0 ≤ x ∧ x < m) ∧ m ∣ a * x - 1 then Classical.choose h else 0
theorem invF_eq {a m x : Int} (hx : 0 ≤ x ∧ x < m) (h : m ∣ a * x - 1) : invF a m = x := by
  have hh : ∃ x, (0 ≤ x ∧ x < m) ∧ m ∣ a * x - 1 := ⟨x, hx, h⟩
  unfold invF
  rw [dif_pos hh]
  exact inv_uniq (Classical.choose_spec hh).1 hx (Classical.choose_spec hh).2 h
structure EgI (a0 m d a x n : Int) : Prop where
  an : 0 ≤ a
  ad : a < d
  d1 : d ≤ m
  sg : ∃ u v : Int, 0 ≤ u ∧ u ≤ m ∧ 0 ≤ v ∧ v ≤ m ∧ (x = -u ∧ n = v ∨ x = u ∧ n = -v) ∧ v * d + u * a = m
  c1 : m ∣ a0 * x - d
  c2 : m ∣ a0 * n - a
  g : Int.gcd d a = Int.gcd a0 m
theorem EgI.start {a m : Int} (h0 : 0 ≤ a) (h1 : a < m) : EgI a m m a 0 1 where
  an := h0
  ad := h1
  d1 := Int.le_refl _
  sg := ⟨0, 1, by omega, by omega, by omega, by omega, Or.inl ⟨rfl, rfl⟩, by omega⟩
  c1 := ⟨-1, by omega⟩
  c2 := ⟨0, by omega⟩
  g := Int.gcd_comm _ _
theorem EgI.nxt {a0 m d a x n : Int} (h : EgI a0 m d a x n) (ha : a ≠ 0) : EgI a0 m a (d % a) n (x - d / a * n) ∧ 0 ≤ d / a ∧ d / a * a ≤ d ∧ -m ≤ d / a * n ∧ d / a * n ≤ m ∧ -m ≤ n ∧ n ≤ m ∧ d - d / a * a = d % a := by
  have p : 0 < a := by have := h.an; omega
  have q0 : 0 ≤ d / a := Int.ediv_nonneg (by have := h.ad; omega) (by omega)
  have e := Int.mul_ediv_add_emod d a
  have r0 := Int.emod_nonneg d ha
  have r1 := Int.emod_lt_of_pos d p
  have hd := h.ad
  have hm := h.d1
  obtain ⟨u, v, u0, u1, v0, v1, hs, hv⟩ := h.sg
  generalize d / a = q at *
  generalize hr : d % a = r at *
  have qv : 0 ≤ q * v := Int.mul_nonneg q0 v0
  have hv' : (u + q * v) * a + v * r = m := by rw [← hv, ← e]; grind
  have vr : 0 ≤ v * r := Int.mul_nonneg v0 r0
  have t0 : 0 ≤ u + q * v := by omega
  have t1 : u + q * v ≤ m := by
    have : (u + q * v) * 1 ≤ (u + q * v) * a := Int.mul_le_mul_of_nonneg_left (by omega) t0
    omega
  refine ⟨⟨r0, r1, by omega, ⟨v, u + q * v, v0, v1, t0, t1, ?_, hv'⟩, h.c2, ?_, ?_⟩, q0, by rw [Int.mul_comm]; omega, ?_, ?_, ?_, ?_, by rw [Int.mul_comm]; omega⟩
  · rcases hs with ⟨rfl, rfl⟩ | ⟨rfl, rfl⟩
    · exact Or.inr ⟨rfl, by omega⟩
    · refine Or.inl ⟨rfl, ?_⟩
      rw [Int.mul_neg]; omega
  · obtain ⟨k, hk⟩ := h.c1
    obtain ⟨j, hj⟩ := h.c2
    refine ⟨k - q * j, ?_⟩
    have : a0 * (x - q * n) - r = (a0 * x - d) - q * (a0 * n - a) + (d - a * q - r) := by grind
    rw [this, hk, hj, show d - a * q - r = 0 by omega]
    grind
  · rw [← h.g, Int.gcd_comm d a, show r = d - a * q by omega]
    exact Int.gcd_sub_mul_left_right _ _ _
  · rcases hs with ⟨_, rfl⟩ | ⟨_, rfl⟩
    · omega
    · rw [Int.mul_neg]; omega
  · rcases hs with ⟨_, rfl⟩ | ⟨_, rfl⟩
    · omega
    · rw [Int.mul_neg]; omega
  · omega
  · omega
def eg (d a x n : Int) : Int × Int := if 0 < a then eg a (d % a) n (x - d / a * n) else (d, x)
termination_by a.toNat
decreasing_by have := Int.emod_lt_of_pos d (by assumption : 0 < a); have := Int.emod_nonneg d (by omega : a ≠ 0); omega
theorem eg_step {d a x n : Int} (h : 0 < a) : eg d a x n = eg a (d % a) n (x - d / a * n) := by
  rw [eg, if_pos h]
theorem eg_end {d a x n : Int} (h : ¬ 0 < a) : eg d a x n = (d, x) := by
  rw [eg, if_neg h]
def EgW (a m : Int) (s : Int × Int × Int × Int) : Prop := EgI a m s.1 s.2.1 s.2.2.1 s.2.2.2 ∧ eg s.1 s.2.1 s.2.2.1 s.2.2.2 = eg m a 0 1
theorem EgW.start {a m : Int} (h0 : 0 ≤ a) (h1 : a < m) : EgW a m (m, a, 0, 1) := ⟨.start h0 h1, rfl⟩
theorem EgW.step {a0 m d a x n : Int} (h : EgW a0 m (d, a, x, n)) (ha : a ≠ 0) : EgW a0 m (a, d % a, n, x - d / a * n) :=
  ⟨(h.1.nxt ha).1, (eg_step (by have := h.1.an; dsimp only at this; omega)).symm.trans h.2⟩
def egX (a m : Int) : Int := let x := (eg m a 0 1).2; (if x < 0 then x + m else x) % m
theorem EgW.fin {a0 m d a x n : Int} (h : EgW a0 m (d, a, x, n)) (ha : a = 0) : d = Int.gcd a0 m ∧ eg m a0 0 1 = (d, x) ∧ -m ≤ x ∧ x ≤ m := by
  subst ha
  obtain ⟨h1, h2⟩ := h
  dsimp only at h1 h2
  refine ⟨?_, by rw [← h2]; exact eg_end (by omega), ?_⟩
  · rw [← h1.g, Int.gcd_zero_right]
    have := h1.ad
    omega
  · obtain ⟨u, v, u0, u1, v0, v1, hs, hv⟩ := h1.sg
    omega
theorem EgW.all {a0 m : Int} : ∀ (k : Nat) (s : Int × Int × Int × Int), s.2.1.toNat ≤ k → EgW a0 m s → ∃ d x n, EgW a0 m (d, 0, x, n)
  | k, (d, a, x, n), hk, h => by
    by_cases ha : a = 0
    · subst ha; exact ⟨d, x, n, h⟩
    · have h0 := h.1.an
      dsimp only at h0 hk
      cases k with
      | zero => omega
      | succ k =>
        have := Int.emod_lt_of_pos d (show 0 < a by omega)
        have := Int.emod_nonneg d ha
        exact EgW.all k _ (by dsimp only; omega) (h.step ha)
structure RgI (a0 m u v x y : Int) : Prop where
  u0 : 0 ≤ u
  u1 : u ≤ m
  v0 : 0 ≤ v
  v1 : v ≤ m
  x0 : 0 ≤ x
  x1 : x < m
  y0 : 0 ≤ y
  y1 : y < m
  c1 : m ∣ a0 * x - u
  c2 : m ∣ a0 * y - v
  g : Int.gcd u v = Int.gcd a0 m
theorem RgI.start {a m : Int} (h0 : 0 ≤ a) (h1 : a < m) : RgI a m a m (1 % m) 0 where
  u0 := h0
  u1 := by omega
  v0 := by omega
  v1 := by omega
  x0 := Int.emod_nonneg _ (by omega)
  x1 := Int.emod_lt_of_pos _ (by omega)
  y0 := by omega
  y1 := by omega
  c1 := by
    have e := Int.mul_ediv_add_emod 1 m
    refine ⟨-(a * (1 / m)), ?_⟩
    generalize 1 / m = q at *
    generalize 1 % m = r at *
    have : a * (m * q + r) = a := by rw [e, Int.mul_one]
    grind
  c2 := ⟨-1, by omega⟩
  g := rfl
theorem RgI.nxt {a0 m u v x y : Int} (h : RgI a0 m u v x y) (hv : v ≠ 0) : RgI a0 m v (u % v) y ((x - u / v % m * y % m) % m) ∧ 0 ≤ u / v ∧ u / v ≤ m ∧ u / v * v ≤ u ∧ 0 ≤ u / v * v ∧ u - u / v * v = u % v := by
  have p : 0 < v := by have := h.v0; omega
  have hm : 0 < m := by have := h.v1; omega
  have q0 : 0 ≤ u / v := Int.ediv_nonneg h.u0 (by omega)
  have e := Int.mul_ediv_add_emod u v
  have r0 := Int.emod_nonneg u hv
  have r1 := Int.emod_lt_of_pos u p
  have hu := h.u0
  have hu1 := h.u1
  have hv1 := h.v1
  have qv : u / v * v ≤ u := by rw [Int.mul_comm]; omega
  have q1 : u / v ≤ m := by
    have : u / v * 1 ≤ u / v * v := Int.mul_le_mul_of_nonneg_left (by omega) q0
    omega
  refine ⟨⟨by omega, by omega, r0, by omega, h.y0, h.y1, Int.emod_nonneg _ (by omega), Int.emod_lt_of_pos _ hm, h.c2, ?_, ?_⟩, q0, q1, qv, Int.mul_nonneg q0 (by omega), by rw [Int.mul_comm]; omega⟩
  · obtain ⟨k, hk⟩ := h.c1
    obtain ⟨j, hj⟩ := h.c2
    have e1 := Int.mul_ediv_add_emod (u / v) m
    have e2 := Int.mul_ediv_add_emod (u / v % m * y) m
    have e3 := Int.mul_ediv_add_emod (x - u / v % m * y % m) m
    generalize (x - u / v % m * y % m) % m = z at *
    generalize (x - u / v % m * y % m) / m = z' at *
    generalize u / v % m * y % m = w at *
    generalize u / v % m * y / m = w' at *
    generalize u / v % m = qm at *
    generalize u / v / m = qm' at *
    generalize u / v = q at *
    generalize u % v = r at *
    refine ⟨k - q * j + a0 * (qm' * y + w' - z'), ?_⟩
    have f1 : z = x - w - m * z' := by omega
    have f2 : w = qm * y - m * w' := by omega
    have f3 : qm = q - m * qm' := by omega
    have f4 : r = u - v * q := by omega
    subst f1; subst f2; subst f3; subst f4
    have g1 : a0 * x = u + m * k := by omega
    have g2 : a0 * y = v + m * j := by omega
    grind
  · rw [← h.g, Int.gcd_comm u v, show u % v = u - v * (u / v) by omega]
    exact Int.gcd_sub_mul_left_right _ _ _
theorem RgI.fin {a0 m u x y : Int} (h : RgI a0 m u 0 x y) (hg : Int.gcd a0 m = 1) : x = invF a0 m := by
  have hu : u = 1 := by
    have := h.g
    have h0 := h.u0
    rw [Int.gcd_zero_right, hg] at this
    omega
  exact (invF_eq ⟨h.x0, h.x1⟩ (hu ▸ h.c1)).symm

theorem EgI.w {a0 m d a x n : Int} (h : EgI a0 m d a x n) (ha : a ≠ 0) (hm : m < 2305843009213693952) :
    IntKind.wrap .i64 (d - IntKind.wrap .i64 (IntKind.wrap .i64 (Int.tdiv d a) * a)) = d % a ∧ IntKind.wrap .i64 (x - IntKind.wrap .i64 (IntKind.wrap .i64 (Int.tdiv d a) * n)) = x - d / a * n ∧ d % a < a ∧ 0 ≤ d % a := by
  obtain ⟨h1, q0, q1, n0, n1, n2, n3, e⟩ := h.nxt ha
  have hd := h.ad; have hm1 := h.d1; have h0 := h.an
  have r0 := h1.an; have r1 := h1.ad
  have qd : d / a ≤ d := by
    have : d / a * 1 ≤ d / a * a := Int.mul_le_mul_of_nonneg_left (by omega) q0
    omega
  have e1 : IntKind.wrap .i64 (Int.tdiv d a) = d / a := by
    rw [Int.tdiv_eq_ediv_of_nonneg (by omega), wI (by omega) (by omega)]
  have e2 : IntKind.wrap .i64 (d / a * a) = d / a * a := wI (by have := Int.mul_nonneg q0 h0; omega) (by omega)
  obtain ⟨u, v, u0, u1, v0, v1, hs, hv⟩ := h1.sg
  rw [e1, e2, wI (n := d - d / a * a) (by omega) (by omega), wI (n := d / a * n) (by omega) (by omega), wI (n := x - d / a * n) (by omega) (by omega)]
  exact ⟨e, rfl, r1, r0⟩
theorem EgW.out {a0 m : Int} {s : Int × Int × Int × Int} (h : EgW a0 m s) (ha : s.2.1 = 0) (hm : m < 2305843009213693952) :
    s.1 = Int.gcd a0 m ∧ (s.2.2.1 < 0 → Int.tmod (IntKind.wrap .i64 (s.2.2.1 + m)) m = egX a0 m) ∧ (¬ s.2.2.1 < 0 → Int.tmod s.2.2.1 m = egX a0 m) ∧ 0 < m := by
  obtain ⟨d, a, x, n⟩ := s
  obtain ⟨h1, h2, h3, h4⟩ := EgW.fin h ha
  have h5 := h.1.d1; have h6 := h.1.ad; have h7 := h.1.an
  dsimp only at *
  refine ⟨h1, fun hx => ?_, fun hx => ?_, by omega⟩
  · rw [wI (by omega) (by omega), tmod_nn (by omega)]
    unfold egX
    rw [h2]
    dsimp only
    rw [if_pos hx]
  · rw [tmod_nn (by omega)]
    unfold egX
    rw [h2]
    dsimp only
    rw [if_neg hx]
theorem RgI.w {a0 m u v x y : Int} (h : RgI a0 m u v x y) (hv : v ≠ 0) (hm : m < 2305843009213693952) :
    IntKind.wrap .i64 (Int.tdiv u v) = u / v ∧ IntKind.wrap .i64 (u - IntKind.wrap .i64 (IntKind.wrap .i64 (Int.tdiv u v) * v)) = u % v ∧ u % v < v ∧ 0 ≤ u % v ∧ 0 < m ∧ 0 ≤ u / v % m ∧ u / v % m < m ∧ IntKind.wrap .i64 (x - u / v % m * y % m) = x - u / v % m * y % m := by
  obtain ⟨h1, q0, q1, n0, n1, e⟩ := h.nxt hv
  have b1 := h.u0; have b2 := h.u1; have b3 := h.v0; have b4 := h.v1; have b5 := h.x0; have b6 := h.x1
  have r0 := Int.emod_nonneg u hv
  have r1 := Int.emod_lt_of_pos u (show 0 < v by omega)
  have m0 : 0 < m := by omega
  have e1 : IntKind.wrap .i64 (Int.tdiv u v) = u / v := by
    rw [Int.tdiv_eq_ediv_of_nonneg (by omega), wI (by omega) (by omega)]
  have c0 := Int.emod_nonneg (u / v % m * y) (show m ≠ 0 by omega)
  have c1 := Int.emod_lt_of_pos (u / v % m * y) m0
  refine ⟨e1, ?_, r1, r0, m0, Int.emod_nonneg _ (by omega), Int.emod_lt_of_pos _ m0, wI (by omega) (by omega)⟩
  rw [e1, wI (n := u / v * v) (by omega) (by omega), wI (by omega) (by omega)]
  exact e
structure Spend.By (s : Spend) : Prop where
  root : byB s.root 32
  payee : byB s.payee 32
end Go.Sp

namespace Go.Sp
open Go Go.Am Go.Lib

theorem okd_li {n : Nat} {c : Nat → It} {d : Int} (hd : 0 < d) (hn : n ≤ 1000) (h : ∀ i, i < n → (c i).okD (d - 1) = true) : (It.li n c).okD d = true := by
  simp only [It.okD, Bool.and_eq_true, decide_eq_true_eq, List.all_eq_true, List.mem_range, Nat.ble_eq]
  exact ⟨⟨hd, hn⟩, h⟩
theorem okd_ls {L : List It} {d : Int} (hd : 0 < d) (hn : L.length ≤ 1000) (h : ∀ x, x ∈ L → x.okD (d - 1) = true) : (lsI L).okD d = true := okd_li hd hn fun i hi => by
  rw [show L.getD i (.int 0) = L[i] by simp [List.getD_eq_getElem?_getD, hi]]
  exact h _ (List.getElem_mem hi)
theorem okd_ints {l : List Int} {d : Int} (hd : 0 < d) (hn : l.length ≤ 1000) : (intsI l).okD d = true := okd_li hd hn fun _ _ => rfl
end Go.Sp

namespace Go.Proofs.YtbmdmoknnlhdoaaGreatDoor.Z
open Go Go.Am Go.Sp Go.Lib Go.RowKit Go.Shelf
set_option maxRecDepth 100000

abbrev kWZH10 : List UInt8 := [(48 : UInt8), (49 : UInt8), (50 : UInt8), (51 : UInt8), (52 : UInt8), (53 : UInt8), (54 : UInt8), (55 : UInt8), (56 : UInt8), (57 : UInt8), (97 : UInt8), (98 : UInt8), (99 : UInt8), (100 : UInt8), (101 : UInt8), (102 : UInt8)]
abbrev glJ : Globs := gl0
theorem pure_up {P : Program} {gl gl' : Globs} {f : FuncId} {args : List AV} {r : AV} (h : Am.Pure P gl f args r) (hs : ∀ g m x, gl g = some (m, x) → gl' g = some (m, x)) : Am.Pure P gl' f args r :=
  ⟨h.1, fun β w vs hF hG hg ha => h.2 β w vs hF hG (fun g m x e => hg g m x (hs g m x e)) ha⟩
theorem glJ_mem {g : Nat} (h : glJ g ≠ none) : g = 6 ∨ g = 8 := by
  have nb : ∀ k, ¬ g = k → Nat.beq g k = false := fun k hk => by
    cases e : Nat.beq g k with
    | false => rfl
    | true => exact absurd (Nat.eq_of_beq_eq_true e) hk
  by_cases h3 : g = 6
  · exact .inl h3
  by_cases h4 : g = 8
  · exact .inr h4
  refine absurd ?_ h
  unfold glJ gl0
  rw [nb _ h3, nb _ h4]; rfl
def glU (a b : Globs) : Globs := fun g => match a g with | some x => some x | none => b g
theorem up_l {P : Program} {a b : Globs} {f : FuncId} {args : List AV} {r : AV} (h : Am.Pure P a f args r) : Am.Pure P (glU a b) f args r := pure_up h fun g m x e => by unfold glU; rw [e]
def owB : FuncId → Option (List Bool) := fun f => bif Nat.beq f 69 then some [true] else bif Nat.beq f 33 then some [true, false] else bif Nat.beq f 36 then some [true] else none
theorem cc_1 (n : Nat) (f : Nat → Int) : Gives Tryz.prog gl0 69 [⟨2, 1, true, .ty 95 (.lst [[.junk, .osl 1 1 0 n]])⟩, ⟨1, n, true, .ty 5 (.fn fun i _ => .int .u8 (f i))⟩] [.own 0 2 0 0 2] (.tup []) [some ⟨2, 1, true, .ty 95 (.lst [[.junk, .osl 1 1 0 n]])⟩, some ⟨1, n, true, .ty 5 (.fn fun i _ => .int .u8 (f i))⟩] :=
  gives_copyCheck (ρ := bld_ren) { bld_lays with } bld_extra.toX72 ⟨_, _, Tryz.func69, rfl, by kernel_rfl⟩ (rest := [_])
theorem st_g (n : Nat) (c : Nat → Int) (l : Str) (hl : l.length = n) (h0 : 0 < n) (hn : n ≤ 140737488355328) (hc : ∀ i, i < n → c i = ((l.getD i 0).toNat : Int)) :
    Gives Tryz.prog gl0 36 [⟨2, 1, true, .ty 95 (.lst [[.junk, .osl 1 1 0 n]])⟩, ⟨1, n, true, .ty 5 (.fn fun i _ => .int .u8 (c i))⟩] [.own 0 2 0 0 2] (.str (bs l)) [none, none] := by
  subst hl
  exact gives_string (ρ := Tryz.lays156_ren) { Tryz.lays156 with } Tryz.Builder_Extra_156 ⟨_, _, Tryz.func36, rfl, by kernel_rfl⟩ (fun e => by rw [e] at h0; exact absurd h0 (by decide)) hn rfl (fun i hi => by rw [hc i hi])

theorem wb_g (n : Nat) (f : Nat → Int) (x : Int) (hn : n ≤ 1099511627776) :
    Gives Tryz.prog gl0 33 [⟨2, 1, true, .ty 95 (.lst [[.junk, .osl 1 1 0 n]])⟩, ⟨1, n, true, .ty 5 (.fn fun i _ => .int .u8 (f i))⟩] [.own 0 2 0 0 2, .int .u8 x] .junk
      [some ⟨2, 1, true, .ty 95 (.lst [[.junk, .osl 2 1 0 (n + 1)]])⟩, none, some ⟨1, n + 1, true, .ty 5 (.fn fun i _ => .int .u8 (bif Nat.blt i n then f i else x))⟩] := by
  have c1 := cc_1 n f
  refine gives_sk (own := owB) (hand := true) Tryz.func33 (by kernel_rfl) mixed (by kernel_rfl)
    (.gc 69 ([{ es := 2, n := 1, mu := true, f := Rep.ty (95 : TypeId) (Rep.lst [[AV.junk, AV.osl (1) (1) (0) n]]) }, { es := 1, n := n, mu := true, f := Rep.ty (5 : TypeId) (Rep.fn fun (i j : Nat) => Zb (f i)) }]) ([AV.own (0) (2) (0) (0) (2)]) (AV.tup []) ([some { es := (2 : Nat), n := (1 : Nat), mu := true, f := Rep.ty (95 : TypeId) (Rep.lst [[AV.junk, AV.osl (1 : Nat) (1 : Nat) (0 : Nat) n]]) }, some { es := (1 : Nat), n := n, mu := true, f := Rep.ty (5 : TypeId) (Rep.fn fun (i x : Nat) => Zb (f i)) }]) (.req ((n + 1) * 1 ≤ 140737488355328) (.out (AV.raw Value.nilIface) ([some { es := 2, n := 1, mu := true, f := Rep.ty (95 : TypeId) (Rep.lst [[AV.junk, AV.osl (2) (1) (0) (n + 1)]]) }, none, some { es := 1, n := n + 1, mu := true, f := Rep.ty (5 : TypeId) (Rep.fn fun (i j : Nat) => Zb (bif Nat.blt i n then f i else intOfAV (atL [Zb x] j))) }]) (AV.junk) ([some { es := (2 : Nat), n := (1 : Nat), mu := true, f := Rep.ty (95 : TypeId) (Rep.lst [[AV.junk, AV.osl (2 : Nat) (1 : Nat) (0 : Nat) (n + (1 : Nat))]]) }, none, some { es := (1 : Nat), n := n + (1 : Nat), mu := true, f := Rep.ty (5 : TypeId) (Rep.fn fun (i x_1 : Nat) => Zb (bif Nat.blt i n then f i else x)) }]))))
    (by kernel_rfl) ?_
  refine k_gc (c1) ?_
  refine k_req (by first | omega | (simp only [Int.toNat_natCast]; omega)) ?_
  exact k_outg (Ent.junk _) (⟨ObEnt.refl _, obT_eq rfl (fun i hi => rfl), trivial⟩)

def hexN (f : Nat → Int) (i : Nat) : Int := ((hexC (f (i / 2))).getD (i % 2) 0).toNat
theorem byte_hi {c : Int} (h : 0 ≤ c ∧ c < 256) : Int.fdiv c ((2 : Int) ^ 4) = c / 16 := Int.fdiv_eq_ediv_of_nonneg _ (by decide)
theorem byte_lo {c : Int} (h : 0 ≤ c ∧ c < 256) : IntKind.wrap .u8 (((BitVec.ofInt 8 c &&& BitVec.ofInt 8 15).toNat : Nat) : Int) = c % 16 := by
  have key : ∀ n : Fin 256, IntKind.wrap .u8 (((BitVec.ofInt 8 ((n.1 : Nat) : Int) &&& BitVec.ofInt 8 15).toNat : Nat) : Int) = ((n.1 : Nat) : Int) % 16 := by decide +kernel
  have := key ⟨c.toNat, by omega⟩
  simp only [Int.toNat_of_nonneg h.1] at this
  exact this
theorem hexN_at (f : Nat → Int) : ∀ n i, i < 2 * n → hexN f i = (((hexF f n).getD i 0).toNat : Int)
  | 0, i, h => absurd h (Nat.not_lt_zero i)
  | n + 1, i, h => by
    have hl := hexF_len f n
    rw [hexF, List.getD_eq_getElem?_getD, List.getElem?_append, hl]
    by_cases hi : i < 2 * n
    · rw [if_pos hi, ← List.getD_eq_getElem?_getD]; exact hexN_at f n i hi
    · rw [if_neg hi, ← List.getD_eq_getElem?_getD]
      have e1 : i / 2 = n := by omega
      have e2 : i % 2 = i - 2 * n := by omega
      unfold hexN; rw [e1, e2]
theorem hexN_0 (f : Nat → Int) (k : Nat) : hexN f (2 * k) = ((hexS.getD (f k / 16).toNat 0).toNat : Int) := by
  unfold hexN hexC; rw [show 2 * k / 2 = k by omega, show 2 * k % 2 = 0 by omega]; rfl
theorem hexN_1 (f : Nat → Int) (k : Nat) : hexN f (2 * k + 1) = ((hexS.getD (f k % 16).toNat 0).toNat : Int) := by
  unfold hexN hexC; rw [show (2 * k + 1) / 2 = k by omega, show (2 * k + 1) % 2 = 1 by omega]; rfl
theorem hexN_s {f : Nat → Int} {x y : Int} {k i : Nat} (hi : i < 2 * k + 1 + 1) (hx : x = hexN f (2 * k)) (hy : y = hexN f (2 * k + 1)) : (bif Nat.blt i (2 * k + 1) then (bif Nat.blt i (2 * k) then hexN f i else x) else y) = hexN f i := by
  by_cases h : i < 2 * k + 1
  · rw [blt_t h]
    by_cases h' : i < 2 * k
    · rw [blt_t h']; rfl
    · rw [blt_f (Nat.le_of_not_lt h'), show i = 2 * k by omega, hx]; rfl
  · rw [blt_f (Nat.le_of_not_lt h), show i = 2 * k + 1 by omega, hy]; rfl
theorem hex_c (f : Nat → Int) (hf : byB f 32) : Pure Tryz.prog gl0 72 [.agg (u8c f)] (.str (bs (hexF f 32))) := by
  have c1 := wb_g
  have c2 : ∀ n, n = 64 → _ := fun n (h : n = 64) => st_g n (hexN f) (hexF f 32) (by rw [hexF_len, h]) (by omega) (by omega) (fun i hi => hexN_at f 32 i (by omega))
  refine pure_sk (own := owB) Tryz.func72 (by kernel_rfl) mixed (by kernel_rfl)
    (.loop ({ x : Nat // x ≤ (32 : Nat) }) (fun (x : { x : Nat // x ≤ (32 : Nat) }) => mkSt [3, 6, 7] [AV.own (0) (2) (0) (0) (2), AV.agg (u8c f), Zi (↑(x.1) : Int)] [some { es := (2 : Nat), n := (1 : Nat), mu := true, f := Rep.ty (95 : TypeId) (Rep.lst [[AV.junk, AV.osl (1 : Nat) (1 : Nat) (0 : Nat) ((2 : Nat) * x.1)]]) }, some { es := (1 : Nat), n := (2 : Nat) * x.1, mu := true, f := Rep.ty (5 : TypeId) (Rep.fn fun (i x : Nat) => Zb (hexN f i)) }]) (fun (x : { x : Nat // x ≤ (32 : Nat) }) => (32 : Nat) - x.1) (⟨(0 : Nat), Nat.zero_le (32 : Nat)⟩) ([3, 6, 7]) ([16, 297]) ([AV.own (0) (2) (0) (0) (2), AV.agg (u8c f), Zi 0]) ([some { es := 2, n := 1, mu := true, f := Rep.ty (95) (Rep.lst [[AV.raw (Value.pointer none), AV.nsl]]) }, some { es := 1, n := 0, mu := true, f := Rep.ty (999999999 : TypeId) (Rep.lst []) }]) (fun x0 => (.br (decide ((↑x0.1 : Int) < (32 : Int))) (.req ((0 : Int) ≤ (↑x0.1 : Int) ∧ (↑x0.1 : Int) < (↑(32) : Int)) (.req ((0 : Int) ≤ Int.fdiv (intOfAV (atL (u8c f) (Int.toNat (↑x0.1 : Int)))) ((2 : Int) ^ 4) ∧ Int.fdiv (intOfAV (atL (u8c f) (Int.toNat (↑x0.1 : Int)))) ((2 : Int) ^ 4) < (↑(16) : Int)) (.gc 33 ([{ es := 2, n := 1, mu := true, f := Rep.ty (95 : TypeId) (Rep.lst [[AV.junk, AV.osl (1) (1) (0) (2 * x0.1)]]) }, { es := 1, n := 2 * x0.1, mu := true, f := Rep.ty (5 : TypeId) (Rep.fn fun (i j : Nat) => Zb (hexN f i)) }]) ([AV.own (0) (2) (0) (0) (2), Zb (↑(UInt8.toNat (List.getD kWZH10 (Int.toNat (Int.fdiv (intOfAV (atL (u8c f) (Int.toNat (↑x0.1 : Int)))) ((2 : Int) ^ 4))) (0 : UInt8))) : Int)]) (AV.junk) ([some { es := (2 : Nat), n := (1 : Nat), mu := true, f := Rep.ty (95 : TypeId) (Rep.lst [[AV.junk, AV.osl (2 : Nat) (1 : Nat) (0 : Nat) (2 * x0.1 + (1 : Nat))]]) }, none, some { es := (1 : Nat), n := 2 * x0.1 + (1 : Nat), mu := true, f := Rep.ty (5 : TypeId) (Rep.fn fun (i x : Nat) => Zb (bif Nat.blt i (2 * x0.1) then hexN f i else (↑(UInt8.toNat (List.getD kWZH10 (Int.toNat (Int.fdiv (intOfAV (atL (u8c f) (Int.toNat (↑x0.1 : Int)))) ((2 : Int) ^ 4))) (0 : UInt8))) : Int))) }]) (.req ((0 : Int) ≤ IntKind.wrap IntKind.u8 (↑(BitVec.toNat (BitVec.ofInt (8) (intOfAV (atL (u8c f) (Int.toNat (↑x0.1 : Int)))) &&& BitVec.ofInt (8) (15 : Int))) : Int) ∧ IntKind.wrap IntKind.u8 (↑(BitVec.toNat (BitVec.ofInt (8) (intOfAV (atL (u8c f) (Int.toNat (↑x0.1 : Int)))) &&& BitVec.ofInt (8) (15 : Int))) : Int) < (↑(16) : Int)) (.gc 33 ([{ es := 2, n := 1, mu := true, f := Rep.ty (95 : TypeId) (Rep.lst [[AV.junk, AV.osl (1) (1) (0) (2 * x0.1 + 1)]]) }, { es := 1, n := 2 * x0.1 + 1, mu := true, f := Rep.ty (5 : TypeId) (Rep.fn fun (i j : Nat) => Zb (bif Nat.blt i (2 * x0.1) then hexN f i else (↑(UInt8.toNat (List.getD kWZH10 (Int.toNat (Int.fdiv (intOfAV (atL (u8c f) (Int.toNat (↑x0.1 : Int)))) ((2 : Int) ^ 4))) (0 : UInt8))) : Int))) }]) ([AV.own (0) (2) (0) (0) (2), Zb (↑(UInt8.toNat (List.getD kWZH10 (Int.toNat (IntKind.wrap IntKind.u8 (↑(BitVec.toNat (BitVec.ofInt (8) (intOfAV (atL (u8c f) (Int.toNat (↑x0.1 : Int)))) &&& BitVec.ofInt (8) (15 : Int))) : Int))) (0 : UInt8))) : Int)]) (AV.junk) ([some { es := (2 : Nat), n := (1 : Nat), mu := true, f := Rep.ty (95 : TypeId) (Rep.lst [[AV.junk, AV.osl (2 : Nat) (1 : Nat) (0 : Nat) (2 * x0.1 + 1 + (1 : Nat))]]) }, none, some { es := (1 : Nat), n := 2 * x0.1 + 1 + (1 : Nat), mu := true, f := Rep.ty (5 : TypeId) (Rep.fn fun (i x : Nat) => Zb (bif Nat.blt i (2 * x0.1 + 1) then bif Nat.blt i (2 * x0.1) then hexN f i else (↑(UInt8.toNat (List.getD kWZH10 (Int.toNat (Int.fdiv (intOfAV (atL (u8c f) (Int.toNat (↑x0.1 : Int)))) ((2 : Int) ^ 4))) (0 : UInt8))) : Int) else (↑(UInt8.toNat (List.getD kWZH10 (Int.toNat (IntKind.wrap IntKind.u8 (↑(BitVec.toNat (BitVec.ofInt (8) (intOfAV (atL (u8c f) (Int.toNat (↑x0.1 : Int)))) &&& BitVec.ofInt (8) (15 : Int))) : Int))) (0 : UInt8))) : Int))) }]) (.again (Again (0) (fun (x : { x : Nat // x ≤ (32 : Nat) }) => mkSt [3, 6, 7] [AV.own (0) (2) (0) (0) (2), AV.agg (u8c f), Zi (↑(x.1) : Int)] [some { es := (2 : Nat), n := (1 : Nat), mu := true, f := Rep.ty (95 : TypeId) (Rep.lst [[AV.junk, AV.osl (1 : Nat) (1 : Nat) (0 : Nat) ((2 : Nat) * x.1)]]) }, some { es := (1 : Nat), n := (2 : Nat) * x.1, mu := true, f := Rep.ty (5 : TypeId) (Rep.fn fun (i x : Nat) => Zb (hexN f i)) }]) (fun (x : { x : Nat // x ≤ (32 : Nat) }) => (32 : Nat) - x.1) x0) ([3, 6, 7]) ([0, 82]) ([AV.own (0) (2) (0) (0) (2), AV.agg (u8c f), Zi (IntKind.wrap IntKind.i64 ((↑x0.1 : Int) + (1 : Int)))]) ([some { es := 2, n := 1, mu := true, f := Rep.ty (95 : TypeId) (Rep.lst [[AV.junk, AV.osl (1) (1) (0) (2 * x0.1 + 1 + 1)]]) }, some { es := 1, n := 2 * x0.1 + 1 + 1, mu := true, f := Rep.ty (5 : TypeId) (Rep.fn fun (i j : Nat) => Zb (bif Nat.blt i (2 * x0.1 + 1) then bif Nat.blt i (2 * x0.1) then hexN f i else (↑(UInt8.toNat (List.getD kWZH10 (Int.toNat (Int.fdiv (intOfAV (atL (u8c f) (Int.toNat (↑x0.1 : Int)))) ((2 : Int) ^ 4))) (0 : UInt8))) : Int) else (↑(UInt8.toNat (List.getD kWZH10 (Int.toNat (IntKind.wrap IntKind.u8 (↑(BitVec.toNat (BitVec.ofInt (8) (intOfAV (atL (u8c f) (Int.toNat (↑x0.1 : Int)))) &&& BitVec.ofInt (8) (15 : Int))) : Int))) (0 : UInt8))) : Int))) }]))))))) (.gc 36 ([{ es := 2, n := 1, mu := true, f := Rep.ty (95 : TypeId) (Rep.lst [[AV.junk, AV.osl (1) (1) (0) (2 * x0.1)]]) }, { es := 1, n := 2 * x0.1, mu := true, f := Rep.ty (5 : TypeId) (Rep.fn fun (i j : Nat) => Zb (hexN f i)) }]) ([AV.own (0) (2) (0) (0) (2)]) (AV.str (bs (hexF f (32 : Nat)))) ([none, none]) (.out (AV.str (bs (hexF f (32)))) [] (AV.str (bs (hexF f (32 : Nat)))) [])))))
    (by kernel_rfl) ?_
  refine k_loop (fun _ hs => hs.le (by repeat' (first | exact trivial | (first | exact Ent.refl _ | exact inc_ent (by omega) | exact Ent.nil rfl | exact Ent.of_eq (congrArg (AV.osl _ _ _) (by first | omega | (dsimp only; omega))) | exact Ent.of_eq (congrArg (AV.int _) (by first | omega | (dsimp only; omega)))) | refine And.intro ?_ ?_)) (⟨obB_ent (Ent.nil rfl), ObEnt.zero, trivial⟩)) (fun x0 => ?_)
  try (have q0 := x0.2; dsimp only at q0)
  have hb := fun (h : x0.1 < 32) => hf x0.1 h; have hu := fun (h : x0.1 < 32) => u8c_at (g := f) h
  refine k_br (fun h1 => ?_) (fun h1 => ?_)
  · have g1 := cnd_dec_t h1
    refine k_req (by first | omega | (simp only [Int.toNat_natCast]; omega)) ?_
    refine k_req (by rw [Int.toNat_natCast, hu (by omega), byte_hi (hb (by omega))]; have := hb (by omega); omega) ?_
    refine k_gc (c1 (2 * x0.1) (hexN f) ((↑(UInt8.toNat (List.getD [(48 : UInt8), (49 : UInt8), (50 : UInt8), (51 : UInt8), (52 : UInt8), (53 : UInt8), (54 : UInt8), (55 : UInt8), (56 : UInt8), (57 : UInt8), (97 : UInt8), (98 : UInt8), (99 : UInt8), (100 : UInt8), (101 : UInt8), (102 : UInt8)] (Int.toNat (Int.fdiv (intOfAV (atL (u8c f) (Int.toNat (↑x0.1 : Int)))) ((2 : Int) ^ 4))) (0 : UInt8))) : Int)) (by first | assumption | omega)) ?_
    refine k_req (by rw [Int.toNat_natCast, hu (by omega), byte_lo (hb (by omega))]; have := hb (by omega); omega) ?_
    refine k_gc (c1 (2 * x0.1 + 1) (fun (i : Nat) => bif Nat.blt i (2 * x0.1) then hexN f i else (↑(UInt8.toNat (List.getD [(48 : UInt8), (49 : UInt8), (50 : UInt8), (51 : UInt8), (52 : UInt8), (53 : UInt8), (54 : UInt8), (55 : UInt8), (56 : UInt8), (57 : UInt8), (97 : UInt8), (98 : UInt8), (99 : UInt8), (100 : UInt8), (101 : UInt8), (102 : UInt8)] (Int.toNat (Int.fdiv (intOfAV (atL (u8c f) (Int.toNat (↑x0.1 : Int)))) ((2 : Int) ^ 4))) (0 : UInt8))) : Int)) ((↑(UInt8.toNat (List.getD [(48 : UInt8), (49 : UInt8), (50 : UInt8), (51 : UInt8), (52 : UInt8), (53 : UInt8), (54 : UInt8), (55 : UInt8), (56 : UInt8), (57 : UInt8), (97 : UInt8), (98 : UInt8), (99 : UInt8), (100 : UInt8), (101 : UInt8), (102 : UInt8)] (Int.toNat (IntKind.wrap IntKind.u8 (↑(BitVec.toNat (BitVec.ofInt (8) (intOfAV (atL (u8c f) (Int.toNat (↑x0.1 : Int)))) &&& BitVec.ofInt (8) (15 : Int))) : Int))) (0 : UInt8))) : Int)) (by first | assumption | omega)) ?_
    exact k_again (⟨x0.1 + 1, by omega⟩) (fun _ hs => hs.le (by repeat' (first | exact trivial | (first | exact Ent.refl _ | exact inc_ent (by omega) | exact Ent.nil rfl | exact Ent.of_eq (congrArg (AV.osl _ _ _) (by first | omega | (dsimp only; omega))) | exact Ent.of_eq (congrArg (AV.int _) (by first | omega | (dsimp only; omega)))) | refine And.intro ?_ ?_)) (⟨obB_ent (Ent.of_eq (congrArg (AV.osl _ _ _) (by show _ = 2 * (x0.1 + 1); omega))), obT_eq (by show _ = 2 * (x0.1 + 1); omega) (fun i hi => hexN_s hi (by rw [hexN_0, Int.toNat_natCast, hu (by omega), byte_hi (hb (by omega))]; rfl) (by rw [hexN_1, Int.toNat_natCast, hu (by omega), byte_lo (hb (by omega))]; rfl)), trivial⟩)) (by first | omega | (dsimp only; omega) | (simp; omega))
  · have g1 := cnd_dec_f h1
    refine k_gc (c2 (2 * x0.1) (by first | assumption | omega)) ?_
    exact k_out (Ent.of_eq (by first | rfl | simp_all))

theorem hexO (f : Nat → Int) (n m : Nat) (h : m = 2 * n) : strOfNums ((List.range m).map fun r => hexN f (0 + r)) = bs (hexF f n) := by
  subst h
  refine congrArg ByteArray.mk (congrArg List.toArray ?_)
  refine List.ext_getElem (by simp [hexF_len]) (fun i h1 h2 => ?_)
  have hi : i < 2 * n := by simpa using h1
  simp only [List.getElem_map, List.getElem_range, Nat.zero_add]
  rw [hexN_at f n i hi, List.getD_eq_getElem?_getD, List.getElem?_eq_getElem h2]
  simp
theorem byte_qr {c : Int} (h : 0 ≤ c ∧ c < 256) : IntKind.wrap .u8 (Int.tdiv c 16) = c / 16 ∧ Int.tmod c 16 = c % 16 := by
  rw [Int.tdiv_eq_ediv_of_nonneg h.1, Int.tmod_eq_emod_of_nonneg h.1]
  refine ⟨?_, rfl⟩
  unfold IntKind.wrap; simp only [IntKind.signed, IntKind.bits]; simp; omega
theorem obF_eq {os : List (Option Ob)} {mu : Bool} {k : IntKind} {n n' : Nat} {f g : Nat → Nat → Int} (hn : n = n') (h : ∀ i, i < n → f i 0 = g i 0) : ObEnt os ⟨1, n, mu, .fn fun i j => .int k (f i j)⟩ ⟨1, n', mu, .fn fun i j => .int k (g i j)⟩ := by
  subst hn
  refine ⟨rfl, rfl, rfl, fun i j hi hj => Ent.of_eq ?_⟩
  obtain rfl : j = 0 := Nat.lt_one_iff.1 hj
  exact congrArg (AV.int k) (h i hi)
theorem hexR_s {f : Nat → Int} {x y : Int} {k i : Nat} (hi : i < 2 * k + 2) (hx : x = hexN f (2 * k)) (hy : y = hexN f (2 * k + 1)) : (bif Nat.blt i (2 * k) then hexN f i else intOfAV (atL (List.getD [[Zb x], [Zb y]] (i - 2 * k) []) 0)) = hexN f i := by
  by_cases h : i < 2 * k
  · rw [blt_t h]; rfl
  · rw [blt_f (Nat.le_of_not_lt h)]
    by_cases h' : i = 2 * k
    · subst h'; rw [Nat.sub_self, ← hx]; rfl
    · obtain rfl : i = 2 * k + 1 := by omega
      rw [show 2 * k + 1 - 2 * k = 1 by omega, ← hy]; rfl
theorem rhex_c (f : Nat → Int) (hf : byB f 32) : Pure Tryz.prog gl0 76 [.agg (u8c f)] (.str (bs (hexF f 32))) := by
  refine pure_sk (own := ow0) Tryz.func76 (by kernel_rfl) mixed (by kernel_rfl)
    (.loop ({ x : Nat // x ≤ (32 : Nat) }) (fun (x : { x : Nat // x ≤ (32 : Nat) }) => mkSt [1, 3, 4, 5] [AV.own (0) (32) (0) (0) (32), AV.str { data := #[(48 : UInt8), (49 : UInt8), (50 : UInt8), (51 : UInt8), (52 : UInt8), (53 : UInt8), (54 : UInt8), (55 : UInt8), (56 : UInt8), (57 : UInt8), (97 : UInt8), (98 : UInt8), (99 : UInt8), (100 : UInt8), (101 : UInt8), (102 : UInt8)] }, AV.osl (1 : Nat) (1 : Nat) (0 : Nat) ((2 : Nat) * x.1), Zi (↑(x.1) : Int)] [some { es := 32, n := 1, mu := true, f := Rep.lst [u8c f] }, some { es := (1 : Nat), n := (2 : Nat) * x.1, mu := true, f := Rep.fn fun (i x : Nat) => Zb (hexN f i) }]) (fun (x : { x : Nat // x ≤ (32 : Nat) }) => (32 : Nat) - x.1) (⟨(0 : Nat), Nat.zero_le (32 : Nat)⟩) ([1, 3, 4, 5]) ([0, 297]) ([AV.own (0) (32) (0) (0) (32), AV.str { data := #[(48 : UInt8), (49 : UInt8), (50 : UInt8), (51 : UInt8), (52 : UInt8), (53 : UInt8), (54 : UInt8), (55 : UInt8), (56 : UInt8), (57 : UInt8), (97 : UInt8), (98 : UInt8), (99 : UInt8), (100 : UInt8), (101 : UInt8), (102 : UInt8)] }, AV.nsl, Zi 0]) ([some { es := 32, n := 1, mu := true, f := Rep.lst [u8c f] }, some { es := 1, n := 0, mu := true, f := Rep.ty (999999999 : TypeId) (Rep.lst []) }]) (fun x0 => (.br (decide ((↑x0.1 : Int) < (32 : Int))) (.req ((0 : Int) ≤ (↑x0.1 : Int) ∧ (↑x0.1 : Int) < (↑(32) : Int)) (.req ((0 : Int) ≤ IntKind.wrap IntKind.u8 (Int.tdiv (intOfAV (atL (u8c f) (0 + Int.toNat (↑x0.1 : Int)))) (16 : Int)) ∧ IntKind.wrap IntKind.u8 (Int.tdiv (intOfAV (atL (u8c f) (0 + Int.toNat (↑x0.1 : Int)))) (16 : Int)) < (↑(16) : Int)) (.req ((0 : Int) ≤ (↑x0.1 : Int) ∧ (↑x0.1 : Int) < (↑(32) : Int)) (.req ((0 : Int) ≤ Int.tmod (intOfAV (atL (u8c f) (0 + Int.toNat (↑x0.1 : Int)))) (16 : Int) ∧ Int.tmod (intOfAV (atL (u8c f) (0 + Int.toNat (↑x0.1 : Int)))) (16 : Int) < (↑(16) : Int)) (.req ((2 * x0.1 + 2) * 1 ≤ 140737488355328) (.again (Again (0) (fun (x : { x : Nat // x ≤ (32 : Nat) }) => mkSt [1, 3, 4, 5] [AV.own (0) (32) (0) (0) (32), AV.str { data := #[(48 : UInt8), (49 : UInt8), (50 : UInt8), (51 : UInt8), (52 : UInt8), (53 : UInt8), (54 : UInt8), (55 : UInt8), (56 : UInt8), (57 : UInt8), (97 : UInt8), (98 : UInt8), (99 : UInt8), (100 : UInt8), (101 : UInt8), (102 : UInt8)] }, AV.osl (1 : Nat) (1 : Nat) (0 : Nat) ((2 : Nat) * x.1), Zi (↑(x.1) : Int)] [some { es := 32, n := 1, mu := true, f := Rep.lst [u8c f] }, some { es := (1 : Nat), n := (2 : Nat) * x.1, mu := true, f := Rep.fn fun (i x : Nat) => Zb (hexN f i) }]) (fun (x : { x : Nat // x ≤ (32 : Nat) }) => (32 : Nat) - x.1) x0) ([1, 3, 4, 5]) ([0, 130]) ([AV.own (0) (32) (0) (0) (32), AV.str { data := #[(48 : UInt8), (49 : UInt8), (50 : UInt8), (51 : UInt8), (52 : UInt8), (53 : UInt8), (54 : UInt8), (55 : UInt8), (56 : UInt8), (57 : UInt8), (97 : UInt8), (98 : UInt8), (99 : UInt8), (100 : UInt8), (101 : UInt8), (102 : UInt8)] }, AV.osl (1) (1) (0) (2 * x0.1 + 2), Zi (IntKind.wrap IntKind.i64 ((↑x0.1 : Int) + (1 : Int)))]) ([some { es := 32, n := 1, mu := true, f := Rep.lst [u8c f] }, some { es := 1, n := 2 * x0.1 + 2, mu := true, f := Rep.fn fun (i j : Nat) => Zb (bif Nat.blt i (2 * x0.1) then hexN f i else intOfAV (atL (List.getD [[Zb (↑(UInt8.toNat (List.getD kWZH10 (Int.toNat (IntKind.wrap IntKind.u8 (Int.tdiv (intOfAV (atL (u8c f) (0 + Int.toNat (↑x0.1 : Int)))) (16 : Int)))) (0 : UInt8))) : Int)], [Zb (↑(UInt8.toNat (List.getD kWZH10 (Int.toNat (Int.tmod (intOfAV (atL (u8c f) (0 + Int.toNat (↑x0.1 : Int)))) (16 : Int))) (0 : UInt8))) : Int)]] (i - 2 * x0.1) []) j)) }]))))))) (.req (∀ (r : Nat), r < (2 : Nat) * x0.1 → isIntK IntKind.u8 ((fun (i x : Nat) => Zb (hexN f i)) ((0 : Nat) + r) (0 : Nat)) = true) (.out (AV.str (strOfNums (List.map (fun (r : Nat) => intOfAV (Rep.at (Ob.f (Ob.seen { es := (1 : Nat), n := (2 : Nat) * x0.1, mu := true, f := Rep.fn fun (i x : Nat) => Zb (hexN f i) })) ((0 : Nat) + r) (0 : Nat))) (List.range ((2 : Nat) * x0.1))))) [] (AV.str (bs (hexF f (32 : Nat)))) [])))))
    (by kernel_rfl) ?_
  refine k_loop (fun _ hs => hs.le (by repeat' (first | exact trivial | (first | exact Ent.refl _ | exact inc_ent (by omega) | exact Ent.nil rfl | exact Ent.of_eq (congrArg (AV.osl _ _ _) (by first | omega | (dsimp only; omega))) | exact Ent.of_eq (congrArg (AV.int _) (by first | omega | (dsimp only; omega)))) | refine And.intro ?_ ?_)) (by repeat' (first | exact trivial | (first | exact ObEnt.refl _ | exact ObEnt.junk | exact ObEnt.zero | exact ObEnt.push rfl rfl | exact ObEnt.pushRow rfl | exact ObEnt.len (by omega) | exact ObEnt.row (by repeat' (first | exact trivial | (first | exact Ent.refl _ | exact inc_ent (by omega) | exact Ent.nil rfl | exact Ent.of_eq (congrArg (AV.osl _ _ _) (by first | omega | (dsimp only; omega))) | exact Ent.of_eq (congrArg (AV.int _) (by first | omega | (dsimp only; omega)))) | refine And.intro ?_ ?_))) | refine And.intro ?_ ?_))) (fun x0 => ?_)
  try (have q0 := x0.2; dsimp only at q0)
  have hb := fun (h : x0.1 < 32) => hf x0.1 h; have hu := fun (h : x0.1 < 32) => u8c_at (g := f) h
  refine k_br (fun h1 => ?_) (fun h1 => ?_)
  · have g1 := cnd_dec_t h1
    refine k_req (by first | omega | (simp only [Int.toNat_natCast]; omega)) ?_
    refine k_req (by rw [Int.toNat_natCast, Nat.zero_add, hu (by omega), (byte_qr (hb (by omega))).1]; have := hb (by omega); omega) ?_
    refine k_req (by first | omega | (simp only [Int.toNat_natCast]; omega)) ?_
    refine k_req (by rw [Int.toNat_natCast, Nat.zero_add, hu (by omega), (byte_qr (hb (by omega))).2]; have := hb (by omega); omega) ?_
    refine k_req (by first | omega | (simp only [Int.toNat_natCast]; omega)) ?_
    exact k_again (⟨x0.1 + 1, by omega⟩) (fun _ hs => hs.le (by repeat' (first | exact trivial | (first | exact Ent.refl _ | exact inc_ent (by omega) | exact Ent.nil rfl | exact Ent.of_eq (congrArg (AV.osl _ _ _) (by first | omega | (dsimp only; omega))) | exact Ent.of_eq (congrArg (AV.int _) (by first | omega | (dsimp only; omega)))) | refine And.intro ?_ ?_)) (⟨by first | exact ObEnt.refl _ | exact ObEnt.junk | exact ObEnt.zero | exact ObEnt.push rfl rfl | exact ObEnt.pushRow rfl | exact ObEnt.len (by omega) | exact ObEnt.row (by repeat' (first | exact trivial | (first | exact Ent.refl _ | exact inc_ent (by omega) | exact Ent.nil rfl | exact Ent.of_eq (congrArg (AV.osl _ _ _) (by first | omega | (dsimp only; omega))) | exact Ent.of_eq (congrArg (AV.int _) (by first | omega | (dsimp only; omega)))) | refine And.intro ?_ ?_)), obF_eq (by show _ = 2 * (x0.1 + 1); omega) (fun i hi => hexR_s hi (by rw [hexN_0, Int.toNat_natCast, Nat.zero_add, hu (by omega), (byte_qr (hb (by omega))).1]; rfl) (by rw [hexN_1, Int.toNat_natCast, Nat.zero_add, hu (by omega), (byte_qr (hb (by omega))).2]; rfl)), trivial⟩)) (by first | omega | (dsimp only; omega) | (simp; omega))
  · have g1 := cnd_dec_f h1
    refine k_req (fun r hr => rfl) ?_
    exact k_out (Ent.of_eq (congrArg AV.str (hexO f 32 _ (by omega))))

end Go.Proofs.YtbmdmoknnlhdoaaGreatDoor.Z

namespace Go.Proofs.YtbmdmoknnlhdoaaGreatDoor.Z
open Go Go.Am Go.Sp
set_option maxRecDepth 100000

theorem rotl_c (x : Int) (n : Nat) (h0 : 0 < n) (h : n < 32) : Pure Tryz.prog gl0 239 [.int .u32 x, .int .i64 (IntKind.wrap .i64 (0 - (n : Int)))] (.int .u32 (rotr x n)) := by
  have e := mask5n h0 h
  refine pure_sk (own := ow0) Tryz.func239 (by kernel_rfl) mixed (by kernel_rfl)
    (.req ((0 : Int) ≤ IntKind.wrap IntKind.u64 (↑(BitVec.toNat (BitVec.ofInt (64) (IntKind.wrap IntKind.u64 (IntKind.wrap IntKind.i64 ((0 : Int) - (↑n : Int)))) &&& BitVec.ofInt (64) (31 : Int))) : Int)) (.req ((0 : Int) ≤ IntKind.wrap IntKind.u64 ((32 : Int) - IntKind.wrap IntKind.u64 (↑(BitVec.toNat (BitVec.ofInt (64) (IntKind.wrap IntKind.u64 (IntKind.wrap IntKind.i64 ((0 : Int) - (↑n : Int)))) &&& BitVec.ofInt (64) (31 : Int))) : Int))) (.out (Zw (IntKind.wrap IntKind.u32 (↑(BitVec.toNat (BitVec.ofInt (32) (IntKind.wrap IntKind.u32 (x * (2 : Int) ^ min (Int.toNat (IntKind.wrap IntKind.u64 (↑(BitVec.toNat (BitVec.ofInt (64) (IntKind.wrap IntKind.u64 (IntKind.wrap IntKind.i64 ((0 : Int) - (↑n : Int)))) &&& BitVec.ofInt (64) (31 : Int))) : Int))) (32))) ||| BitVec.ofInt (32) (Int.fdiv x ((2 : Int) ^ min (Int.toNat (IntKind.wrap IntKind.u64 ((32 : Int) - IntKind.wrap IntKind.u64 (↑(BitVec.toNat (BitVec.ofInt (64) (IntKind.wrap IntKind.u64 (IntKind.wrap IntKind.i64 ((0 : Int) - (↑n : Int)))) &&& BitVec.ofInt (64) (31 : Int))) : Int)))) (32))))) : Int))) [] (Zw (rotr x n)) [])))
    (by kernel_rfl) ?_
  refine k_req (by rw [e]; omega) ?_
  refine k_req (by rw [e, wu64 (by omega) (by omega)]; omega) ?_
  exact k_out (Ent.of_eq (congrArg _ (by rw [e, wu64 (n := 32 - ((32 - n : Nat) : Int)) (by omega) (by omega), or_comm32, shr_eq]; unfold rotr; rw [show min (Int.toNat (32 - ((32 - n : Nat) : Int))) 32 = n by omega, show min (Int.toNat ((32 - n : Nat) : Int)) 32 = 32 - n by omega])))

theorem right_c (x : Int) (n : Nat) (h0 : 0 < n) (h : n < 32) : Pure Tryz.prog gl0 217 [.int .u32 x, .int .i64 n] (.int .u32 (rotr x n)) := by
  refine pure_sk (own := ow0) Tryz.func217 (by kernel_rfl) mixed (by kernel_rfl)
    (.sc (true) 239 ([Zw x, Zi (IntKind.wrap IntKind.i64 ((0 : Int) - (↑n : Int)))]) (Zw (rotr x n)) (.out (Zw (rotr x n)) [] (Zw (rotr x n)) []))
    (by kernel_rfl) ?_
  refine k_sc (rotl_c (x) (n) (by first | assumption | omega) (by first | assumption | omega)) ?_
  exact k_out (Ent.of_eq (by first | rfl | simp_all))

theorem rright_c (x : Int) (n : Nat) (h0 : 0 < n) (h : n < 32) : Pure Tryz.prog gl0 191 [.int .u32 x, .int .i64 n] (.int .u32 (rotr x n)) := by
  have e : IntKind.wrap .i64 (32 - (n : Int)) = ((32 - n : Nat) : Int) := by rw [wI (by omega) (by omega)]; omega
  refine pure_sk (own := ow0) Tryz.func191 (by kernel_rfl) mixed (by kernel_rfl)
    (.req ((0 : Int) ≤ (↑n : Int)) (.req ((0 : Int) ≤ IntKind.wrap IntKind.i64 ((32 : Int) - (↑n : Int))) (.out (Zw (IntKind.wrap IntKind.u32 (↑(BitVec.toNat (BitVec.ofInt (32) (Int.fdiv x ((2 : Int) ^ min (Int.toNat (↑n : Int)) (32))) ||| BitVec.ofInt (32) (IntKind.wrap IntKind.u32 (x * (2 : Int) ^ min (Int.toNat (IntKind.wrap IntKind.i64 ((32 : Int) - (↑n : Int)))) (32))))) : Int))) [] (Zw (rotr x n)) [])))
    (by kernel_rfl) ?_
  refine k_req (by first | omega | (simp only [Int.toNat_natCast]; omega)) ?_
  refine k_req (by rw [e]; omega) ?_
  exact k_out (Ent.of_eq (congrArg _ (by rw [e, shr_eq]; unfold rotr; rw [show min (Int.toNat ((32 - n : Nat) : Int)) 32 = 32 - n by omega, show min (Int.toNat (n : Int)) 32 = n by omega])))

theorem count_c (n : Int) (h : 0 ≤ n) (h' : n < 18446744073709551616) : Pure Tryz.prog gl0 184 [.int .u64 n] (bys 8 (be8 n)) := by
  refine pure_sk (own := ow0) Tryz.func184 (by kernel_rfl) mixed (by kernel_rfl)
    (.req ((0 : Int) ≤ (8 : Int) ∧ (8 : Int) = (8 : Int) ∧ (↑(1) : Int) * (8 : Int) ≤ (140737488355328 : Int) ∧ (8 : Int) ≤ (9223372036854775807 : Int)) (.loop ({ x : Nat // x ≤ (8 : Nat) }) (fun (x : { x : Nat // x ≤ (8 : Nat) }) => mkSt [0, 3, 7, 8] [Zu n, AV.osl (0) (1) (0) (8), Zi (↑(8) : Int), Zi (↑(x.1) : Int)] [some { es := (1 : Nat), n := (8 : Nat), mu := true, f := Rep.fn fun (q x_1 : Nat) => Zb (bif Nat.blt q (x.1) then be8 n q else (0 : Int)) }]) (fun (x : { x : Nat // x ≤ (8 : Nat) }) => (8 : Nat) - x.1) (⟨(0 : Nat), Nat.zero_le (8 : Nat)⟩) ([0, 3, 7, 8]) ([8]) ([Zu n, AV.osl (0) (1) (0) (8), Zi (↑(8) : Int), Zi 0]) ([some { es := 1, n := 8, mu := true, f := Rep.fn fun (i j : Nat) => Zb (intOfAV (atL (zcells (Value.int IntKind.u8 (0 : Int))) j)) }]) (fun x1 => (.br (decide ((↑x1.1 : Int) < (↑(8) : Int))) (.req ((0 : Int) ≤ IntKind.wrap IntKind.i64 ((56 : Int) - IntKind.wrap IntKind.i64 ((8 : Int) * (↑x1.1 : Int)))) (.req ((0 : Int) ≤ (↑x1.1 : Int) ∧ (↑x1.1 : Int) < (↑(8) : Int)) (.again (Again (0) (fun (x : { x : Nat // x ≤ (8 : Nat) }) => mkSt [0, 3, 7, 8] [Zu n, AV.osl (0) (1) (0) (8), Zi (↑(8) : Int), Zi (↑(x.1) : Int)] [some { es := (1 : Nat), n := (8 : Nat), mu := true, f := Rep.fn fun (q x_1 : Nat) => Zb (bif Nat.blt q (x.1) then be8 n q else (0 : Int)) }]) (fun (x : { x : Nat // x ≤ (8 : Nat) }) => (8 : Nat) - x.1) x1) ([0, 3, 7, 8]) ([0]) ([Zu n, AV.osl (0) (1) (0) (8), Zi (↑(8) : Int), Zi (IntKind.wrap IntKind.i64 ((↑x1.1 : Int) + (1 : Int)))]) ([some { es := 1, n := 8, mu := true, f := Rep.fn fun (i j : Nat) => Zb (bif Nat.beq i (Int.toNat (↑x1.1 : Int) + 0) && (Nat.ble (0) j && Nat.blt j (1)) then IntKind.wrap IntKind.u8 (Int.fdiv n ((2 : Int) ^ min (Int.toNat (IntKind.wrap IntKind.i64 ((56 : Int) - IntKind.wrap IntKind.i64 ((8 : Int) * (↑x1.1 : Int))))) (64))) else bif Nat.blt i x1.1 then be8 n i else (0 : Int)) }])))) (.out (AV.isl (1) (8) fun (r k : Nat) => Zb (bif Nat.blt (r + 0) x1.1 then be8 n (r + 0) else (0 : Int))) [] (bys (8 : Nat) (be8 n)) [])))))
    (by kernel_rfl) ?_
  refine k_req (by first | omega | (simp only [Int.toNat_natCast]; omega)) ?_
  refine k_loop (fun _ hs => hs.le (by repeat' (first | exact trivial | (first | exact Ent.refl _ | exact inc_ent (by omega) | exact Ent.nil rfl | exact Ent.of_eq (congrArg (AV.osl _ _ _) (by first | omega | (dsimp only; omega))) | exact Ent.of_eq (congrArg (AV.int _) (by first | omega | (dsimp only; omega)))) | refine And.intro ?_ ?_)) (⟨⟨rfl, rfl, rfl, fun i j hi hj => Ent.of_eq (by obtain rfl : j = 0 := Nat.lt_one_iff.1 hj; rfl)⟩, trivial⟩)) (fun x1 => ?_)
  try (have q1 := x1.2; dsimp only at q1)
  refine k_br (fun h2 => ?_) (fun h2 => ?_)
  · have g2 := cnd_dec_t h2
    refine k_req (by rw [wI (n := 8 * (x1.1 : Int)) (by omega) (by omega), wI (by omega) (by omega)]; omega) ?_
    refine k_req (by first | omega | (simp only [Int.toNat_natCast]; omega)) ?_
    exact k_again (⟨x1.1 + 1, by omega⟩) (fun _ hs => hs.le (by repeat' (first | exact trivial | (first | exact Ent.refl _ | exact inc_ent (by omega) | exact Ent.nil rfl | exact Ent.of_eq (congrArg (AV.osl _ _ _) (by first | omega | (dsimp only; omega))) | exact Ent.of_eq (congrArg (AV.int _) (by first | omega | (dsimp only; omega)))) | refine And.intro ?_ ?_)) (⟨ObEnt.fillF (be8_w (by omega)), trivial⟩)) (by first | omega | (dsimp only; omega) | (simp; omega))
  · have g2 := cnd_dec_f h2
    exact k_out (bys_eq rfl (fun i hi => by rw [blt_t (by omega)]; rfl))

theorem rbytes_c (n : Int) (h : 0 ≤ n) (h' : n < 9223372036854775808) : Pure Tryz.prog gl0 222 [.int .i64 n] (bys 8 (be8 n)) := by
  refine pure_sk (own := ow0) Tryz.func222 (by kernel_rfl) mixed (by kernel_rfl)
    (.loop ({ x : Nat // x ≤ (8 : Nat) }) (fun (x : { x : Nat // x ≤ (8 : Nat) }) => mkSt [0, 3, 4] [Zi n, AV.osl (0 : Nat) (1 : Nat) (0 : Nat) (x.1), Zi ((7 : Int) - (↑(x.1) : Int))] [some { es := (1 : Nat), n := x.1, mu := true, f := Rep.fn fun (q x : Nat) => Zb (be8 n q) }]) (fun (x : { x : Nat // x ≤ (8 : Nat) }) => (8 : Nat) - x.1) (⟨(0 : Nat), Nat.zero_le (8 : Nat)⟩) ([0, 3, 4]) ([280]) ([Zi n, AV.nsl, Zi 7]) ([some { es := 1, n := 0, mu := true, f := Rep.ty (999999999 : TypeId) (Rep.lst []) }]) (fun x0 => (.br (decide ((7 : Int) - (↑x0.1 : Int) ≥ (0 : Int))) (.req ((0 : Int) ≤ IntKind.wrap IntKind.i64 ((8 : Int) * ((7 : Int) - (↑x0.1 : Int)))) (.req ((x0.1 + 1) * 1 ≤ 140737488355328) (.again (Again (0) (fun (x : { x : Nat // x ≤ (8 : Nat) }) => mkSt [0, 3, 4] [Zi n, AV.osl (0 : Nat) (1 : Nat) (0 : Nat) (x.1), Zi ((7 : Int) - (↑(x.1) : Int))] [some { es := (1 : Nat), n := x.1, mu := true, f := Rep.fn fun (q x : Nat) => Zb (be8 n q) }]) (fun (x : { x : Nat // x ≤ (8 : Nat) }) => (8 : Nat) - x.1) x0) ([0, 3, 4]) ([73]) ([Zi n, AV.osl (0) (1) (0) (x0.1 + 1), Zi (IntKind.wrap IntKind.i64 ((7 : Int) - (↑x0.1 : Int) - (1 : Int)))]) ([some { es := 1, n := x0.1 + 1, mu := true, f := Rep.fn fun (i j : Nat) => Zb (bif Nat.blt i x0.1 then be8 n i else intOfAV (atL [Zb (IntKind.wrap IntKind.u8 (Int.fdiv n ((2 : Int) ^ min (Int.toNat (IntKind.wrap IntKind.i64 ((8 : Int) * ((7 : Int) - (↑x0.1 : Int))))) (64))))] j)) }])))) (.out (AV.isl (1) x0.1 fun (r k : Nat) => Zb (be8 n (r + 0))) [] (bys (8 : Nat) (be8 n)) []))))
    (by kernel_rfl) ?_
  refine k_loop (fun _ hs => hs.le (by repeat' (first | exact trivial | (first | exact Ent.refl _ | exact inc_ent (by omega) | exact Ent.nil rfl | exact Ent.of_eq (congrArg (AV.osl _ _ _) (by first | omega | (dsimp only; omega))) | exact Ent.of_eq (congrArg (AV.int _) (by first | omega | (dsimp only; omega)))) | refine And.intro ?_ ?_)) (by repeat' (first | exact trivial | (first | exact ObEnt.refl _ | exact ObEnt.junk | exact ObEnt.zero | exact ObEnt.push rfl rfl | exact ObEnt.pushRow rfl | exact ObEnt.len (by omega) | exact ObEnt.row (by repeat' (first | exact trivial | (first | exact Ent.refl _ | exact inc_ent (by omega) | exact Ent.nil rfl | exact Ent.of_eq (congrArg (AV.osl _ _ _) (by first | omega | (dsimp only; omega))) | exact Ent.of_eq (congrArg (AV.int _) (by first | omega | (dsimp only; omega)))) | refine And.intro ?_ ?_))) | refine And.intro ?_ ?_))) (fun x0 => ?_)
  try (have q0 := x0.2; dsimp only at q0)
  refine k_br (fun h1 => ?_) (fun h1 => ?_)
  · have g1 := cnd_dec_t h1
    refine k_req (by rw [wI (by omega) (by omega)]; omega) ?_
    refine k_req (by first | omega | (simp only [Int.toNat_natCast]; omega)) ?_
    exact k_again (⟨x0.1 + 1, by omega⟩) (fun _ hs => hs.le (⟨by first | exact Ent.refl _ | exact inc_ent (by omega) | exact Ent.nil rfl | exact Ent.of_eq (congrArg (AV.osl _ _ _) (by first | omega | (dsimp only; omega))) | exact Ent.of_eq (congrArg (AV.int _) (by first | omega | (dsimp only; omega))), by first | exact Ent.refl _ | exact inc_ent (by omega) | exact Ent.nil rfl | exact Ent.of_eq (congrArg (AV.osl _ _ _) (by first | omega | (dsimp only; omega))) | exact Ent.of_eq (congrArg (AV.int _) (by first | omega | (dsimp only; omega))), Ent.of_eq (congrArg _ (by rw [wI (by omega) (by omega)]; dsimp only; omega)), trivial⟩) (⟨ObEnt.pushF rfl (be8_v (by omega)), trivial⟩)) (by first | omega | (dsimp only; omega) | (simp; omega))
  · have g1 := cnd_dec_f h1
    exact k_out (bys_eq (by omega) (fun i hi => rfl))


theorem schedule_c (b : Nat → Int) (hb : byB b 64) : Pure Tryz.prog gl0 216 [bys 64 b] (.agg ((List.range 64).map fun j => .int .u32 (wordF b j))) := by
  refine pure_sk (own := ow0) Tryz.func216 (by kernel_rfl) mixed (by kernel_rfl)
    (.loop ({ x : Nat // x ≤ (16 : Nat) }) (fun (x : { x : Nat // x ≤ (16 : Nat) }) => mkSt [0, 2, 3, 12] [AV.isl (1) (64) fun (i x : Nat) => Zb (b i), AV.own (0) (64) (0) (0) (64), AV.own (1) (64) (0) (0) (64), Zi (↑(x.1) : Int)] [some { es := 64, n := 1, mu := true, f := Rep.lst [[Zw 0, Zw 0, Zw 0, Zw 0, Zw 0, Zw 0, Zw 0, Zw 0, Zw 0, Zw 0, Zw 0, Zw 0, Zw 0, Zw 0, Zw 0, Zw 0, Zw 0, Zw 0, Zw 0, Zw 0, Zw 0, Zw 0, Zw 0, Zw 0, Zw 0, Zw 0, Zw 0, Zw 0, Zw 0, Zw 0, Zw 0, Zw 0, Zw 0, Zw 0, Zw 0, Zw 0, Zw 0, Zw 0, Zw 0, Zw 0, Zw 0, Zw 0, Zw 0, Zw 0, Zw 0, Zw 0, Zw 0, Zw 0, Zw 0, Zw 0, Zw 0, Zw 0, Zw 0, Zw 0, Zw 0, Zw 0, Zw 0, Zw 0, Zw 0, Zw 0, Zw 0, Zw 0, Zw 0, Zw 0]] }, some { es := (64 : Nat), n := (1 : Nat), mu := true, f := Rep.fn fun (x_1 j : Nat) => Zw (bif Nat.blt j (x.1) then be4 b j else (0 : Int)) }]) (fun (x : { x : Nat // x ≤ (16 : Nat) }) => (16 : Nat) - x.1) (⟨(0 : Nat), Nat.zero_le (16 : Nat)⟩) ([0, 2, 3, 12]) ([0, 8]) ([AV.isl (1) (64) fun (i x : Nat) => Zb (b i), AV.own (0) (64) (0) (0) (64), AV.own (1) (64) (0) (0) (64), Zi 0]) ([some { es := 64, n := 1, mu := true, f := Rep.lst [[Zw 0, Zw 0, Zw 0, Zw 0, Zw 0, Zw 0, Zw 0, Zw 0, Zw 0, Zw 0, Zw 0, Zw 0, Zw 0, Zw 0, Zw 0, Zw 0, Zw 0, Zw 0, Zw 0, Zw 0, Zw 0, Zw 0, Zw 0, Zw 0, Zw 0, Zw 0, Zw 0, Zw 0, Zw 0, Zw 0, Zw 0, Zw 0, Zw 0, Zw 0, Zw 0, Zw 0, Zw 0, Zw 0, Zw 0, Zw 0, Zw 0, Zw 0, Zw 0, Zw 0, Zw 0, Zw 0, Zw 0, Zw 0, Zw 0, Zw 0, Zw 0, Zw 0, Zw 0, Zw 0, Zw 0, Zw 0, Zw 0, Zw 0, Zw 0, Zw 0, Zw 0, Zw 0, Zw 0, Zw 0]] }, some { es := 64, n := 1, mu := true, f := Rep.lst [[Zw 0, Zw 0, Zw 0, Zw 0, Zw 0, Zw 0, Zw 0, Zw 0, Zw 0, Zw 0, Zw 0, Zw 0, Zw 0, Zw 0, Zw 0, Zw 0, Zw 0, Zw 0, Zw 0, Zw 0, Zw 0, Zw 0, Zw 0, Zw 0, Zw 0, Zw 0, Zw 0, Zw 0, Zw 0, Zw 0, Zw 0, Zw 0, Zw 0, Zw 0, Zw 0, Zw 0, Zw 0, Zw 0, Zw 0, Zw 0, Zw 0, Zw 0, Zw 0, Zw 0, Zw 0, Zw 0, Zw 0, Zw 0, Zw 0, Zw 0, Zw 0, Zw 0, Zw 0, Zw 0, Zw 0, Zw 0, Zw 0, Zw 0, Zw 0, Zw 0, Zw 0, Zw 0, Zw 0, Zw 0]] }]) (fun x0 => (.br (decide ((↑x0.1 : Int) < (16 : Int))) (.req ((0 : Int) ≤ IntKind.wrap IntKind.i64 ((4 : Int) * (↑x0.1 : Int)) ∧ IntKind.wrap IntKind.i64 ((4 : Int) * (↑x0.1 : Int)) ≤ IntKind.wrap IntKind.i64 (IntKind.wrap IntKind.i64 ((4 : Int) * (↑x0.1 : Int)) + (4 : Int)) ∧ IntKind.wrap IntKind.i64 (IntKind.wrap IntKind.i64 ((4 : Int) * (↑x0.1 : Int)) + (4 : Int)) ≤ (↑(64) : Int)) (.loop ({ x : Nat // x ≤ (4 : Nat) }) (fun (x : { x : Nat // x ≤ (4 : Nat) }) => mkSt [0, 2, 3, 4, 12, 21, 22, 23] [AV.isl (1) (64) fun (i x : Nat) => Zb (b i), AV.own (0) (64) (0) (0) (64), AV.own (1) (64) (0) (0) (64), Zi (↑x0.1 : Int), Zi (↑x0.1 : Int), bys (4 : Nat) fun (q : Nat) => b ((4 : Nat) * x0.1 + q), Zi (↑(4 : Nat) : Int), Zi (↑(x.1) : Int)] [some { es := 64, n := 1, mu := true, f := Rep.lst [[Zw 0, Zw 0, Zw 0, Zw 0, Zw 0, Zw 0, Zw 0, Zw 0, Zw 0, Zw 0, Zw 0, Zw 0, Zw 0, Zw 0, Zw 0, Zw 0, Zw 0, Zw 0, Zw 0, Zw 0, Zw 0, Zw 0, Zw 0, Zw 0, Zw 0, Zw 0, Zw 0, Zw 0, Zw 0, Zw 0, Zw 0, Zw 0, Zw 0, Zw 0, Zw 0, Zw 0, Zw 0, Zw 0, Zw 0, Zw 0, Zw 0, Zw 0, Zw 0, Zw 0, Zw 0, Zw 0, Zw 0, Zw 0, Zw 0, Zw 0, Zw 0, Zw 0, Zw 0, Zw 0, Zw 0, Zw 0, Zw 0, Zw 0, Zw 0, Zw 0, Zw 0, Zw 0, Zw 0, Zw 0]] }, some { es := (64 : Nat), n := (1 : Nat), mu := true, f := Rep.fn fun (x_1 j : Nat) => Zw (bif Nat.beq j (x0.1) then preB b (x0.1) (x.1) else bif Nat.blt j (x0.1) then be4 b j else (0 : Int)) }]) (fun (x : { x : Nat // x ≤ (4 : Nat) }) => (4 : Nat) - x.1) (⟨(0 : Nat), Nat.zero_le (4 : Nat)⟩) ([0, 2, 3, 4, 12, 21, 22, 23]) ([0, 1]) ([AV.isl (1) (64) fun (i x : Nat) => Zb (b i), AV.own (0) (64) (0) (0) (64), AV.own (1) (64) (0) (0) (64), Zi (↑x0.1 : Int), Zi (↑x0.1 : Int), AV.isl (1) (Int.toNat (IntKind.wrap IntKind.i64 (IntKind.wrap IntKind.i64 ((4 : Int) * (↑x0.1 : Int)) + (4 : Int))) - Int.toNat (IntKind.wrap IntKind.i64 ((4 : Int) * (↑x0.1 : Int)))) fun (i j : Nat) => Zb (b (i + Int.toNat (IntKind.wrap IntKind.i64 ((4 : Int) * (↑x0.1 : Int))))), Zi (↑(Int.toNat (IntKind.wrap IntKind.i64 (IntKind.wrap IntKind.i64 ((4 : Int) * (↑x0.1 : Int)) + (4 : Int))) - Int.toNat (IntKind.wrap IntKind.i64 ((4 : Int) * (↑x0.1 : Int)))) : Int), Zi 0]) ([some { es := 64, n := 1, mu := true, f := Rep.lst [[Zw 0, Zw 0, Zw 0, Zw 0, Zw 0, Zw 0, Zw 0, Zw 0, Zw 0, Zw 0, Zw 0, Zw 0, Zw 0, Zw 0, Zw 0, Zw 0, Zw 0, Zw 0, Zw 0, Zw 0, Zw 0, Zw 0, Zw 0, Zw 0, Zw 0, Zw 0, Zw 0, Zw 0, Zw 0, Zw 0, Zw 0, Zw 0, Zw 0, Zw 0, Zw 0, Zw 0, Zw 0, Zw 0, Zw 0, Zw 0, Zw 0, Zw 0, Zw 0, Zw 0, Zw 0, Zw 0, Zw 0, Zw 0, Zw 0, Zw 0, Zw 0, Zw 0, Zw 0, Zw 0, Zw 0, Zw 0, Zw 0, Zw 0, Zw 0, Zw 0, Zw 0, Zw 0, Zw 0, Zw 0]] }, some { es := 64, n := 1, mu := true, f := Rep.fn fun (i j : Nat) => Zw (bif Nat.blt j (x0.1) then be4 b j else (0 : Int)) }]) (fun x3 => (.br (decide ((↑x3.1 : Int) < (↑(4) : Int))) (.req ((0 : Int) ≤ (↑x3.1 : Int) ∧ (↑x3.1 : Int) < (↑(4) : Int)) (.req ((0 : Int) ≤ (↑x0.1 : Int) ∧ (↑x0.1 : Int) < (↑(64) : Int)) (.req ((0 : Int) ≤ (↑x0.1 : Int) ∧ (↑x0.1 : Int) < (↑(64) : Int)) (.again (Again (0) (fun (x : { x : Nat // x ≤ (4 : Nat) }) => mkSt [0, 2, 3, 4, 12, 21, 22, 23] [AV.isl (1) (64) fun (i x : Nat) => Zb (b i), AV.own (0) (64) (0) (0) (64), AV.own (1) (64) (0) (0) (64), Zi (↑x0.1 : Int), Zi (↑x0.1 : Int), bys (4 : Nat) fun (q : Nat) => b ((4 : Nat) * x0.1 + q), Zi (↑(4 : Nat) : Int), Zi (↑(x.1) : Int)] [some { es := 64, n := 1, mu := true, f := Rep.lst [[Zw 0, Zw 0, Zw 0, Zw 0, Zw 0, Zw 0, Zw 0, Zw 0, Zw 0, Zw 0, Zw 0, Zw 0, Zw 0, Zw 0, Zw 0, Zw 0, Zw 0, Zw 0, Zw 0, Zw 0, Zw 0, Zw 0, Zw 0, Zw 0, Zw 0, Zw 0, Zw 0, Zw 0, Zw 0, Zw 0, Zw 0, Zw 0, Zw 0, Zw 0, Zw 0, Zw 0, Zw 0, Zw 0, Zw 0, Zw 0, Zw 0, Zw 0, Zw 0, Zw 0, Zw 0, Zw 0, Zw 0, Zw 0, Zw 0, Zw 0, Zw 0, Zw 0, Zw 0, Zw 0, Zw 0, Zw 0, Zw 0, Zw 0, Zw 0, Zw 0, Zw 0, Zw 0, Zw 0, Zw 0]] }, some { es := (64 : Nat), n := (1 : Nat), mu := true, f := Rep.fn fun (x_1 j : Nat) => Zw (bif Nat.beq j (x0.1) then preB b (x0.1) (x.1) else bif Nat.blt j (x0.1) then be4 b j else (0 : Int)) }]) (fun (x : { x : Nat // x ≤ (4 : Nat) }) => (4 : Nat) - x.1) x3) ([0, 2, 3, 4, 12, 21, 22, 23]) ([0, 1]) ([AV.isl (1) (64) fun (i x : Nat) => Zb (b i), AV.own (0) (64) (0) (0) (64), AV.own (1) (64) (0) (0) (64), Zi (↑x0.1 : Int), Zi (↑x0.1 : Int), AV.isl (1) (4) fun (i x : Nat) => Zb (b (4 * x0.1 + i)), Zi (↑(4) : Int), Zi (IntKind.wrap IntKind.i64 ((↑x3.1 : Int) + (1 : Int)))]) ([some { es := 64, n := 1, mu := true, f := Rep.lst [[Zw 0, Zw 0, Zw 0, Zw 0, Zw 0, Zw 0, Zw 0, Zw 0, Zw 0, Zw 0, Zw 0, Zw 0, Zw 0, Zw 0, Zw 0, Zw 0, Zw 0, Zw 0, Zw 0, Zw 0, Zw 0, Zw 0, Zw 0, Zw 0, Zw 0, Zw 0, Zw 0, Zw 0, Zw 0, Zw 0, Zw 0, Zw 0, Zw 0, Zw 0, Zw 0, Zw 0, Zw 0, Zw 0, Zw 0, Zw 0, Zw 0, Zw 0, Zw 0, Zw 0, Zw 0, Zw 0, Zw 0, Zw 0, Zw 0, Zw 0, Zw 0, Zw 0, Zw 0, Zw 0, Zw 0, Zw 0, Zw 0, Zw 0, Zw 0, Zw 0, Zw 0, Zw 0, Zw 0, Zw 0]] }, some { es := 64, n := 1, mu := true, f := Rep.fn fun (i j : Nat) => Zw (bif Nat.beq i (0) && Nat.beq j (0 + Int.toNat (↑x0.1 : Int)) then IntKind.wrap IntKind.u32 (↑(BitVec.toNat (BitVec.ofInt (32) (IntKind.wrap IntKind.u32 ((bif Nat.beq (0 + Int.toNat (↑x0.1 : Int)) x0.1 then preB b x0.1 x3.1 else bif Nat.blt (0 + Int.toNat (↑x0.1 : Int)) x0.1 then be4 b (0 + Int.toNat (↑x0.1 : Int)) else (0 : Int)) * (2 : Int) ^ 8)) ||| BitVec.ofInt (32) (IntKind.wrap IntKind.u32 (b (4 * x0.1 + Int.toNat (↑x3.1 : Int)))))) : Int) else bif Nat.beq j x0.1 then preB b x0.1 x3.1 else bif Nat.blt j x0.1 then be4 b j else (0 : Int)) }]))))) (.again (Again (0) (fun (x : { x : Nat // x ≤ (16 : Nat) }) => mkSt [0, 2, 3, 12] [AV.isl (1) (64) fun (i x : Nat) => Zb (b i), AV.own (0) (64) (0) (0) (64), AV.own (1) (64) (0) (0) (64), Zi (↑(x.1) : Int)] [some { es := 64, n := 1, mu := true, f := Rep.lst [[Zw 0, Zw 0, Zw 0, Zw 0, Zw 0, Zw 0, Zw 0, Zw 0, Zw 0, Zw 0, Zw 0, Zw 0, Zw 0, Zw 0, Zw 0, Zw 0, Zw 0, Zw 0, Zw 0, Zw 0, Zw 0, Zw 0, Zw 0, Zw 0, Zw 0, Zw 0, Zw 0, Zw 0, Zw 0, Zw 0, Zw 0, Zw 0, Zw 0, Zw 0, Zw 0, Zw 0, Zw 0, Zw 0, Zw 0, Zw 0, Zw 0, Zw 0, Zw 0, Zw 0, Zw 0, Zw 0, Zw 0, Zw 0, Zw 0, Zw 0, Zw 0, Zw 0, Zw 0, Zw 0, Zw 0, Zw 0, Zw 0, Zw 0, Zw 0, Zw 0, Zw 0, Zw 0, Zw 0, Zw 0]] }, some { es := (64 : Nat), n := (1 : Nat), mu := true, f := Rep.fn fun (x_1 j : Nat) => Zw (bif Nat.blt j (x.1) then be4 b j else (0 : Int)) }]) (fun (x : { x : Nat // x ≤ (16 : Nat) }) => (16 : Nat) - x.1) x0) ([0, 2, 3, 12]) ([0, 1]) ([AV.isl (1) (64) fun (i x : Nat) => Zb (b i), AV.own (0) (64) (0) (0) (64), AV.own (1) (64) (0) (0) (64), Zi (IntKind.wrap IntKind.i64 ((↑x0.1 : Int) + (1 : Int)))]) ([some { es := 64, n := 1, mu := true, f := Rep.lst [[Zw 0, Zw 0, Zw 0, Zw 0, Zw 0, Zw 0, Zw 0, Zw 0, Zw 0, Zw 0, Zw 0, Zw 0, Zw 0, Zw 0, Zw 0, Zw 0, Zw 0, Zw 0, Zw 0, Zw 0, Zw 0, Zw 0, Zw 0, Zw 0, Zw 0, Zw 0, Zw 0, Zw 0, Zw 0, Zw 0, Zw 0, Zw 0, Zw 0, Zw 0, Zw 0, Zw 0, Zw 0, Zw 0, Zw 0, Zw 0, Zw 0, Zw 0, Zw 0, Zw 0, Zw 0, Zw 0, Zw 0, Zw 0, Zw 0, Zw 0, Zw 0, Zw 0, Zw 0, Zw 0, Zw 0, Zw 0, Zw 0, Zw 0, Zw 0, Zw 0, Zw 0, Zw 0, Zw 0, Zw 0]] }, some { es := 64, n := 1, mu := true, f := Rep.fn fun (i j : Nat) => Zw (bif Nat.beq j x0.1 then preB b x0.1 x3.1 else bif Nat.blt j x0.1 then be4 b j else (0 : Int)) }])))))) (.loop ({ x : Nat // x ≤ (48 : Nat) }) (fun (x : { x : Nat // x ≤ (48 : Nat) }) => mkSt [2, 3, 7] [AV.own (0) (64) (0) (0) (64), AV.own (1) (64) (0) (0) (64), Zi (↑((16 : Nat) + x.1) : Int)] [some { es := 64, n := 1, mu := true, f := Rep.lst [[Zw 0, Zw 0, Zw 0, Zw 0, Zw 0, Zw 0, Zw 0, Zw 0, Zw 0, Zw 0, Zw 0, Zw 0, Zw 0, Zw 0, Zw 0, Zw 0, Zw 0, Zw 0, Zw 0, Zw 0, Zw 0, Zw 0, Zw 0, Zw 0, Zw 0, Zw 0, Zw 0, Zw 0, Zw 0, Zw 0, Zw 0, Zw 0, Zw 0, Zw 0, Zw 0, Zw 0, Zw 0, Zw 0, Zw 0, Zw 0, Zw 0, Zw 0, Zw 0, Zw 0, Zw 0, Zw 0, Zw 0, Zw 0, Zw 0, Zw 0, Zw 0, Zw 0, Zw 0, Zw 0, Zw 0, Zw 0, Zw 0, Zw 0, Zw 0, Zw 0, Zw 0, Zw 0, Zw 0, Zw 0]] }, some { es := (64 : Nat), n := (1 : Nat), mu := true, f := Rep.fn fun (x_1 j : Nat) => Zw (bif Nat.blt j ((16 : Nat) + x.1) then wordF b j else (0 : Int)) }]) (fun (x : { x : Nat // x ≤ (48 : Nat) }) => (48 : Nat) - x.1) (⟨(0 : Nat), Nat.zero_le (48 : Nat)⟩) ([2, 3, 7]) ([0, 1]) ([AV.own (0) (64) (0) (0) (64), AV.own (1) (64) (0) (0) (64), Zi 16]) ([some { es := 64, n := 1, mu := true, f := Rep.lst [[Zw 0, Zw 0, Zw 0, Zw 0, Zw 0, Zw 0, Zw 0, Zw 0, Zw 0, Zw 0, Zw 0, Zw 0, Zw 0, Zw 0, Zw 0, Zw 0, Zw 0, Zw 0, Zw 0, Zw 0, Zw 0, Zw 0, Zw 0, Zw 0, Zw 0, Zw 0, Zw 0, Zw 0, Zw 0, Zw 0, Zw 0, Zw 0, Zw 0, Zw 0, Zw 0, Zw 0, Zw 0, Zw 0, Zw 0, Zw 0, Zw 0, Zw 0, Zw 0, Zw 0, Zw 0, Zw 0, Zw 0, Zw 0, Zw 0, Zw 0, Zw 0, Zw 0, Zw 0, Zw 0, Zw 0, Zw 0, Zw 0, Zw 0, Zw 0, Zw 0, Zw 0, Zw 0, Zw 0, Zw 0]] }, some { es := 64, n := 1, mu := true, f := Rep.fn fun (i j : Nat) => Zw (bif Nat.blt j (x0.1) then be4 b j else (0 : Int)) }]) (fun x10 => (.br (decide ((↑(16 + x10.1) : Int) < (64 : Int))) (.req ((0 : Int) ≤ IntKind.wrap IntKind.i64 ((↑(16 + x10.1) : Int) - (15 : Int)) ∧ IntKind.wrap IntKind.i64 ((↑(16 + x10.1) : Int) - (15 : Int)) < (↑(64) : Int)) (.req ((0 : Int) ≤ IntKind.wrap IntKind.i64 ((↑(16 + x10.1) : Int) - (2 : Int)) ∧ IntKind.wrap IntKind.i64 ((↑(16 + x10.1) : Int) - (2 : Int)) < (↑(64) : Int)) (.sc (true) 217 ([Zw (bif Nat.blt (0 + Int.toNat (IntKind.wrap IntKind.i64 ((↑(16 + x10.1) : Int) - (15 : Int)))) (16 + x10.1) then wordF b (0 + Int.toNat (IntKind.wrap IntKind.i64 ((↑(16 + x10.1) : Int) - (15 : Int)))) else (0 : Int)), Zi 7]) (Zw (rotr (bif Nat.blt (0 + Int.toNat (IntKind.wrap IntKind.i64 ((↑(16 + x10.1) : Int) - (15 : Int)))) (16 + x10.1) then wordF b (0 + Int.toNat (IntKind.wrap IntKind.i64 ((↑(16 + x10.1) : Int) - (15 : Int)))) else (0 : Int)) (7 : Nat))) (.sc (true) 217 ([Zw (bif Nat.blt (0 + Int.toNat (IntKind.wrap IntKind.i64 ((↑(16 + x10.1) : Int) - (15 : Int)))) (16 + x10.1) then wordF b (0 + Int.toNat (IntKind.wrap IntKind.i64 ((↑(16 + x10.1) : Int) - (15 : Int)))) else (0 : Int)), Zi 18]) (Zw (rotr (bif Nat.blt (0 + Int.toNat (IntKind.wrap IntKind.i64 ((↑(16 + x10.1) : Int) - (15 : Int)))) (16 + x10.1) then wordF b (0 + Int.toNat (IntKind.wrap IntKind.i64 ((↑(16 + x10.1) : Int) - (15 : Int)))) else (0 : Int)) (18 : Nat))) (.sc (true) 217 ([Zw (bif Nat.blt (0 + Int.toNat (IntKind.wrap IntKind.i64 ((↑(16 + x10.1) : Int) - (2 : Int)))) (16 + x10.1) then wordF b (0 + Int.toNat (IntKind.wrap IntKind.i64 ((↑(16 + x10.1) : Int) - (2 : Int)))) else (0 : Int)), Zi 17]) (Zw (rotr (bif Nat.blt (0 + Int.toNat (IntKind.wrap IntKind.i64 ((↑(16 + x10.1) : Int) - (2 : Int)))) (16 + x10.1) then wordF b (0 + Int.toNat (IntKind.wrap IntKind.i64 ((↑(16 + x10.1) : Int) - (2 : Int)))) else (0 : Int)) (17 : Nat))) (.sc (true) 217 ([Zw (bif Nat.blt (0 + Int.toNat (IntKind.wrap IntKind.i64 ((↑(16 + x10.1) : Int) - (2 : Int)))) (16 + x10.1) then wordF b (0 + Int.toNat (IntKind.wrap IntKind.i64 ((↑(16 + x10.1) : Int) - (2 : Int)))) else (0 : Int)), Zi 19]) (Zw (rotr (bif Nat.blt (0 + Int.toNat (IntKind.wrap IntKind.i64 ((↑(16 + x10.1) : Int) - (2 : Int)))) (16 + x10.1) then wordF b (0 + Int.toNat (IntKind.wrap IntKind.i64 ((↑(16 + x10.1) : Int) - (2 : Int)))) else (0 : Int)) (19 : Nat))) (.req ((0 : Int) ≤ IntKind.wrap IntKind.i64 ((↑(16 + x10.1) : Int) - (16 : Int)) ∧ IntKind.wrap IntKind.i64 ((↑(16 + x10.1) : Int) - (16 : Int)) < (↑(64) : Int)) (.req ((0 : Int) ≤ IntKind.wrap IntKind.i64 ((↑(16 + x10.1) : Int) - (7 : Int)) ∧ IntKind.wrap IntKind.i64 ((↑(16 + x10.1) : Int) - (7 : Int)) < (↑(64) : Int)) (.req ((0 : Int) ≤ (↑(16 + x10.1) : Int) ∧ (↑(16 + x10.1) : Int) < (↑(64) : Int)) (.again (Again (0) (fun (x : { x : Nat // x ≤ (48 : Nat) }) => mkSt [2, 3, 7] [AV.own (0) (64) (0) (0) (64), AV.own (1) (64) (0) (0) (64), Zi (↑((16 : Nat) + x.1) : Int)] [some { es := 64, n := 1, mu := true, f := Rep.lst [[Zw 0, Zw 0, Zw 0, Zw 0, Zw 0, Zw 0, Zw 0, Zw 0, Zw 0, Zw 0, Zw 0, Zw 0, Zw 0, Zw 0, Zw 0, Zw 0, Zw 0, Zw 0, Zw 0, Zw 0, Zw 0, Zw 0, Zw 0, Zw 0, Zw 0, Zw 0, Zw 0, Zw 0, Zw 0, Zw 0, Zw 0, Zw 0, Zw 0, Zw 0, Zw 0, Zw 0, Zw 0, Zw 0, Zw 0, Zw 0, Zw 0, Zw 0, Zw 0, Zw 0, Zw 0, Zw 0, Zw 0, Zw 0, Zw 0, Zw 0, Zw 0, Zw 0, Zw 0, Zw 0, Zw 0, Zw 0, Zw 0, Zw 0, Zw 0, Zw 0, Zw 0, Zw 0, Zw 0, Zw 0]] }, some { es := (64 : Nat), n := (1 : Nat), mu := true, f := Rep.fn fun (x_1 j : Nat) => Zw (bif Nat.blt j ((16 : Nat) + x.1) then wordF b j else (0 : Int)) }]) (fun (x : { x : Nat // x ≤ (48 : Nat) }) => (48 : Nat) - x.1) x10) ([2, 3, 7]) ([0, 1]) ([AV.own (0) (64) (0) (0) (64), AV.own (1) (64) (0) (0) (64), Zi (IntKind.wrap IntKind.i64 ((↑(16 + x10.1) : Int) + (1 : Int)))]) ([some { es := 64, n := 1, mu := true, f := Rep.lst [[Zw 0, Zw 0, Zw 0, Zw 0, Zw 0, Zw 0, Zw 0, Zw 0, Zw 0, Zw 0, Zw 0, Zw 0, Zw 0, Zw 0, Zw 0, Zw 0, Zw 0, Zw 0, Zw 0, Zw 0, Zw 0, Zw 0, Zw 0, Zw 0, Zw 0, Zw 0, Zw 0, Zw 0, Zw 0, Zw 0, Zw 0, Zw 0, Zw 0, Zw 0, Zw 0, Zw 0, Zw 0, Zw 0, Zw 0, Zw 0, Zw 0, Zw 0, Zw 0, Zw 0, Zw 0, Zw 0, Zw 0, Zw 0, Zw 0, Zw 0, Zw 0, Zw 0, Zw 0, Zw 0, Zw 0, Zw 0, Zw 0, Zw 0, Zw 0, Zw 0, Zw 0, Zw 0, Zw 0, Zw 0]] }, some { es := 64, n := 1, mu := true, f := Rep.fn fun (i j : Nat) => Zw (bif Nat.beq i (0) && Nat.beq j (0 + Int.toNat (↑(16 + x10.1) : Int)) then IntKind.wrap IntKind.u32 (IntKind.wrap IntKind.u32 (IntKind.wrap IntKind.u32 ((bif Nat.blt (0 + Int.toNat (IntKind.wrap IntKind.i64 ((↑(16 + x10.1) : Int) - (16 : Int)))) (16 + x10.1) then wordF b (0 + Int.toNat (IntKind.wrap IntKind.i64 ((↑(16 + x10.1) : Int) - (16 : Int)))) else (0 : Int)) + IntKind.wrap IntKind.u32 (↑(BitVec.toNat (BitVec.ofInt (32) (IntKind.wrap IntKind.u32 (↑(BitVec.toNat (BitVec.ofInt (32) (rotr (bif Nat.blt (0 + Int.toNat (IntKind.wrap IntKind.i64 ((↑(16 + x10.1) : Int) - (15 : Int)))) (16 + x10.1) then wordF b (0 + Int.toNat (IntKind.wrap IntKind.i64 ((↑(16 + x10.1) : Int) - (15 : Int)))) else (0 : Int)) (7)) ^^^ BitVec.ofInt (32) (rotr (bif Nat.blt (0 + Int.toNat (IntKind.wrap IntKind.i64 ((↑(16 + x10.1) : Int) - (15 : Int)))) (16 + x10.1) then wordF b (0 + Int.toNat (IntKind.wrap IntKind.i64 ((↑(16 + x10.1) : Int) - (15 : Int)))) else (0 : Int)) (18)))) : Int)) ^^^ BitVec.ofInt (32) (Int.fdiv (bif Nat.blt (0 + Int.toNat (IntKind.wrap IntKind.i64 ((↑(16 + x10.1) : Int) - (15 : Int)))) (16 + x10.1) then wordF b (0 + Int.toNat (IntKind.wrap IntKind.i64 ((↑(16 + x10.1) : Int) - (15 : Int)))) else (0 : Int)) ((2 : Int) ^ 3)))) : Int)) + bif Nat.blt (0 + Int.toNat (IntKind.wrap IntKind.i64 ((↑(16 + x10.1) : Int) - (7 : Int)))) (16 + x10.1) then wordF b (0 + Int.toNat (IntKind.wrap IntKind.i64 ((↑(16 + x10.1) : Int) - (7 : Int)))) else (0 : Int)) + IntKind.wrap IntKind.u32 (↑(BitVec.toNat (BitVec.ofInt (32) (IntKind.wrap IntKind.u32 (↑(BitVec.toNat (BitVec.ofInt (32) (rotr (bif Nat.blt (0 + Int.toNat (IntKind.wrap IntKind.i64 ((↑(16 + x10.1) : Int) - (2 : Int)))) (16 + x10.1) then wordF b (0 + Int.toNat (IntKind.wrap IntKind.i64 ((↑(16 + x10.1) : Int) - (2 : Int)))) else (0 : Int)) (17)) ^^^ BitVec.ofInt (32) (rotr (bif Nat.blt (0 + Int.toNat (IntKind.wrap IntKind.i64 ((↑(16 + x10.1) : Int) - (2 : Int)))) (16 + x10.1) then wordF b (0 + Int.toNat (IntKind.wrap IntKind.i64 ((↑(16 + x10.1) : Int) - (2 : Int)))) else (0 : Int)) (19)))) : Int)) ^^^ BitVec.ofInt (32) (Int.fdiv (bif Nat.blt (0 + Int.toNat (IntKind.wrap IntKind.i64 ((↑(16 + x10.1) : Int) - (2 : Int)))) (16 + x10.1) then wordF b (0 + Int.toNat (IntKind.wrap IntKind.i64 ((↑(16 + x10.1) : Int) - (2 : Int)))) else (0 : Int)) ((2 : Int) ^ 10)))) : Int)) else bif Nat.blt j (16 + x10.1) then wordF b j else (0 : Int)) }]))))))))))) (.out (AV.agg [Zw (bif Nat.blt (0) (16 + x10.1) then wordF b (0) else (0 : Int)), Zw (bif Nat.blt (1) (16 + x10.1) then wordF b (1) else (0 : Int)), Zw (bif Nat.blt (2) (16 + x10.1) then wordF b (2) else (0 : Int)), Zw (bif Nat.blt (3) (16 + x10.1) then wordF b (3) else (0 : Int)), Zw (bif Nat.blt (4) (16 + x10.1) then wordF b (4) else (0 : Int)), Zw (bif Nat.blt (5) (16 + x10.1) then wordF b (5) else (0 : Int)), Zw (bif Nat.blt (6) (16 + x10.1) then wordF b (6) else (0 : Int)), Zw (bif Nat.blt (7) (16 + x10.1) then wordF b (7) else (0 : Int)), Zw (bif Nat.blt (8) (16 + x10.1) then wordF b (8) else (0 : Int)), Zw (bif Nat.blt (9) (16 + x10.1) then wordF b (9) else (0 : Int)), Zw (bif Nat.blt (10) (16 + x10.1) then wordF b (10) else (0 : Int)), Zw (bif Nat.blt (11) (16 + x10.1) then wordF b (11) else (0 : Int)), Zw (bif Nat.blt (12) (16 + x10.1) then wordF b (12) else (0 : Int)), Zw (bif Nat.blt (13) (16 + x10.1) then wordF b (13) else (0 : Int)), Zw (bif Nat.blt (14) (16 + x10.1) then wordF b (14) else (0 : Int)), Zw (bif Nat.blt (15) (16 + x10.1) then wordF b (15) else (0 : Int)), Zw (bif Nat.blt (16) (16 + x10.1) then wordF b (16) else (0 : Int)), Zw (bif Nat.blt (17) (16 + x10.1) then wordF b (17) else (0 : Int)), Zw (bif Nat.blt (18) (16 + x10.1) then wordF b (18) else (0 : Int)), Zw (bif Nat.blt (19) (16 + x10.1) then wordF b (19) else (0 : Int)), Zw (bif Nat.blt (20) (16 + x10.1) then wordF b (20) else (0 : Int)), Zw (bif Nat.blt (21) (16 + x10.1) then wordF b (21) else (0 : Int)), Zw (bif Nat.blt (22) (16 + x10.1) then wordF b (22) else (0 : Int)), Zw (bif Nat.blt (23) (16 + x10.1) then wordF b (23) else (0 : Int)), Zw (bif Nat.blt (24) (16 + x10.1) then wordF b (24) else (0 : Int)), Zw (bif Nat.blt (25) (16 + x10.1) then wordF b (25) else (0 : Int)), Zw (bif Nat.blt (26) (16 + x10.1) then wordF b (26) else (0 : Int)), Zw (bif Nat.blt (27) (16 + x10.1) then wordF b (27) else (0 : Int)), Zw (bif Nat.blt (28) (16 + x10.1) then wordF b (28) else (0 : Int)), Zw (bif Nat.blt (29) (16 + x10.1) then wordF b (29) else (0 : Int)), Zw (bif Nat.blt (30) (16 + x10.1) then wordF b (30) else (0 : Int)), Zw (bif Nat.blt (31) (16 + x10.1) then wordF b (31) else (0 : Int)), Zw (bif Nat.blt (32) (16 + x10.1) then wordF b (32) else (0 : Int)), Zw (bif Nat.blt (33) (16 + x10.1) then wordF b (33) else (0 : Int)), Zw (bif Nat.blt (34) (16 + x10.1) then wordF b (34) else (0 : Int)), Zw (bif Nat.blt (35) (16 + x10.1) then wordF b (35) else (0 : Int)), Zw (bif Nat.blt (36) (16 + x10.1) then wordF b (36) else (0 : Int)), Zw (bif Nat.blt (37) (16 + x10.1) then wordF b (37) else (0 : Int)), Zw (bif Nat.blt (38) (16 + x10.1) then wordF b (38) else (0 : Int)), Zw (bif Nat.blt (39) (16 + x10.1) then wordF b (39) else (0 : Int)), Zw (bif Nat.blt (40) (16 + x10.1) then wordF b (40) else (0 : Int)), Zw (bif Nat.blt (41) (16 + x10.1) then wordF b (41) else (0 : Int)), Zw (bif Nat.blt (42) (16 + x10.1) then wordF b (42) else (0 : Int)), Zw (bif Nat.blt (43) (16 + x10.1) then wordF b (43) else (0 : Int)), Zw (bif Nat.blt (44) (16 + x10.1) then wordF b (44) else (0 : Int)), Zw (bif Nat.blt (45) (16 + x10.1) then wordF b (45) else (0 : Int)), Zw (bif Nat.blt (46) (16 + x10.1) then wordF b (46) else (0 : Int)), Zw (bif Nat.blt (47) (16 + x10.1) then wordF b (47) else (0 : Int)), Zw (bif Nat.blt (48) (16 + x10.1) then wordF b (48) else (0 : Int)), Zw (bif Nat.blt (49) (16 + x10.1) then wordF b (49) else (0 : Int)), Zw (bif Nat.blt (50) (16 + x10.1) then wordF b (50) else (0 : Int)), Zw (bif Nat.blt (51) (16 + x10.1) then wordF b (51) else (0 : Int)), Zw (bif Nat.blt (52) (16 + x10.1) then wordF b (52) else (0 : Int)), Zw (bif Nat.blt (53) (16 + x10.1) then wordF b (53) else (0 : Int)), Zw (bif Nat.blt (54) (16 + x10.1) then wordF b (54) else (0 : Int)), Zw (bif Nat.blt (55) (16 + x10.1) then wordF b (55) else (0 : Int)), Zw (bif Nat.blt (56) (16 + x10.1) then wordF b (56) else (0 : Int)), Zw (bif Nat.blt (57) (16 + x10.1) then wordF b (57) else (0 : Int)), Zw (bif Nat.blt (58) (16 + x10.1) then wordF b (58) else (0 : Int)), Zw (bif Nat.blt (59) (16 + x10.1) then wordF b (59) else (0 : Int)), Zw (bif Nat.blt (60) (16 + x10.1) then wordF b (60) else (0 : Int)), Zw (bif Nat.blt (61) (16 + x10.1) then wordF b (61) else (0 : Int)), Zw (bif Nat.blt (62) (16 + x10.1) then wordF b (62) else (0 : Int)), Zw (bif Nat.blt (63) (16 + x10.1) then wordF b (63) else (0 : Int))]) [] (AV.agg (List.map (fun (j : Nat) => Zw (wordF b j)) (List.range (64 : Nat)))) [])))))))
    (by kernel_rfl) ?_
  refine k_loop (fun _ hs => hs.le (⟨.refl _, .refl _, .refl _, .refl _, trivial⟩) (⟨.refl _, zero_ob (fun j => rfl), trivial⟩)) (fun x0 => ?_)
  try (have q0 := x0.2; dsimp only at q0)
  refine k_br (fun h1 => ?_) (fun h1 => ?_)
  · have g1 := cnd_dec_t h1
    refine k_req (by rw [(w4 (by omega)).1, (w4 (by omega)).2]; omega) ?_
    refine k_loop (fun _ hs => hs.le (⟨.refl _, .refl _, .refl _, .refl _, .refl _, bys_eq (by rw [(w4 (by omega)).1, (w4 (by omega)).2]; omega) (fun i hi => congrArg b (by rw [(w4 (by omega)).1]; omega)), Ent.of_eq (congrArg _ (by rw [(w4 (by omega)).1, (w4 (by omega)).2]; omega)), .refl _, trivial⟩) (⟨.refl _, ObEnt.fnR (fun j hj => by (by_cases e : j = x0.1; (subst e; rw [Nat.beq_refl, blt_f (Nat.le_refl _)]; rfl); (rw [beq_f e]; rfl))), trivial⟩)) (fun x3 => ?_)
    try (have q3 := x3.2; dsimp only at q3)
    refine k_br (fun h4 => ?_) (fun h4 => ?_)
    · have g4 := cnd_dec_t h4
      refine k_req (by omega) ?_
      refine k_req (by omega) ?_
      refine k_req (by omega) ?_
      exact k_again (⟨x3.1 + 1, by omega⟩) (fun _ hs => hs.le (⟨.refl _, .refl _, .refl _, .refl _, .refl _, .refl _, .refl _, inc_ent (by omega), trivial⟩) (⟨.refl _, ObEnt.setR (P := fun i j => Nat.beq i 0 && Nat.beq j (0 + Int.toNat ((x0.1 : Nat) : Int))) (c0 := x0.1) (G := fun j => bif Nat.beq j x0.1 then preB b x0.1 (x3.1 + 1) else bif Nat.blt j x0.1 then be4 b j else 0) (fun j _ => by show (true && Nat.beq j (0 + x0.1)) = _; rw [Nat.zero_add]; rfl) (by simp only [Nat.zero_add, Int.toNat_natCast, Nat.beq_refl, cond_true]; have p := pre_b24 (k := x3.1) hb (show x0.1 < 16 by omega) (by omega); have q := hb (4 * x0.1 + x3.1) (by omega); exact pre_step p.1 p.2 q.1 q.2) (fun j _ he => by simp only [beq_f he]; rfl), trivial⟩)) (by dsimp only; omega)
    · have g4 := cnd_dec_f h4
      exact k_again (⟨x0.1 + 1, by omega⟩) (fun _ hs => hs.le (⟨.refl _, .refl _, .refl _, inc_ent (by omega), trivial⟩) (⟨.refl _, ObEnt.fnR (fun j hj => by
                                                                                                     have e4 : x3.1 = 4 := by omega
                                                                                                     rw [e4]
                                                                                                     show (bif Nat.beq j x0.1 then preB b x0.1 4 else bif Nat.blt j x0.1 then be4 b j else 0) = bif Nat.blt j (x0.1 + 1) then be4 b j else 0
                                                                                                     by_cases e : j = x0.1
                                                                                                     · subst e; rw [Nat.beq_refl, blt_t (Nat.lt_succ_self _)]; rfl
                                                                                                     · rw [beq_f e]; exact fill_step e), trivial⟩)) (by dsimp only; omega)
  · have g1 := cnd_dec_f h1
    refine k_loop (fun _ hs => hs.le (⟨.refl _, .refl _, .refl _, trivial⟩) (⟨.refl _, ObEnt.fnR (fun j hj => by
                                                                                                     have e : x0.1 = 16 := by omega
                                                                                                     rw [e]
                                                                                                     show (bif Nat.blt j 16 then be4 b j else 0) = bif Nat.blt j 16 then wordF b j else 0
                                                                                                     by_cases h : j < 16
                                                                                                     · rw [word_lo h]
                                                                                                     · rw [blt_f (by omega)]; rfl), trivial⟩)) (fun x10 => ?_)
    refine k_br (fun h11 => ?_) (fun h11 => ?_)
    · have g11 := cnd_dec_t h11
      refine k_req (by rw [wI (by omega) (by omega)]; omega) ?_
      refine k_req (by rw [wI (by omega) (by omega)]; omega) ?_
      refine k_sc ((fun (x : Int) => right_c x (7 : Nat)) (bif Nat.blt (0 + Int.toNat (IntKind.wrap IntKind.i64 ((↑(16 + x10.1) : Int) - (15 : Int)))) (16 + x10.1) then wordF b (0 + Int.toNat (IntKind.wrap IntKind.i64 ((↑(16 + x10.1) : Int) - (15 : Int)))) else (0 : Int)) (by omega) (by omega)) ?_
      refine k_sc ((fun (x : Int) => right_c x (18 : Nat)) (bif Nat.blt (0 + Int.toNat (IntKind.wrap IntKind.i64 ((↑(16 + x10.1) : Int) - (15 : Int)))) (16 + x10.1) then wordF b (0 + Int.toNat (IntKind.wrap IntKind.i64 ((↑(16 + x10.1) : Int) - (15 : Int)))) else (0 : Int)) (by omega) (by omega)) ?_
      refine k_sc ((fun (x : Int) => right_c x (17 : Nat)) (bif Nat.blt (0 + Int.toNat (IntKind.wrap IntKind.i64 ((↑(16 + x10.1) : Int) - (2 : Int)))) (16 + x10.1) then wordF b (0 + Int.toNat (IntKind.wrap IntKind.i64 ((↑(16 + x10.1) : Int) - (2 : Int)))) else (0 : Int)) (by omega) (by omega)) ?_
      refine k_sc ((fun (x : Int) => right_c x (19 : Nat)) (bif Nat.blt (0 + Int.toNat (IntKind.wrap IntKind.i64 ((↑(16 + x10.1) : Int) - (2 : Int)))) (16 + x10.1) then wordF b (0 + Int.toNat (IntKind.wrap IntKind.i64 ((↑(16 + x10.1) : Int) - (2 : Int)))) else (0 : Int)) (by omega) (by omega)) ?_
      refine k_req (by rw [wI (by omega) (by omega)]; omega) ?_
      refine k_req (by rw [wI (by omega) (by omega)]; omega) ?_
      refine k_req (by omega) ?_
      exact k_again (⟨x10.1 + 1, by omega⟩) (fun _ hs => hs.le (⟨.refl _, .refl _, inc_ent (i := 16 + x10.1) (by omega), trivial⟩) (⟨.refl _, ObEnt.setR (P := fun i j => Nat.beq i 0 && Nat.beq j (0 + Int.toNat ((16 + x10.1 : Nat) : Int))) (c0 := 16 + x10.1) (G := fun j => bif Nat.blt j (16 + x10.1 + 1) then wordF b j else 0) (fun j _ => by show (true && Nat.beq j (0 + (16 + x10.1))) = _; rw [Nat.zero_add]; rfl) (by
                                                                                                     simp only [back_w (t := x10.1) (d := 15) (k := 15) rfl (by omega) (by omega), back_w (t := x10.1) (d := 2) (k := 2) rfl (by omega) (by omega), back_w (t := x10.1) (d := 7) (k := 7) rfl (by omega) (by omega), back_w (t := x10.1) (d := 16) (k := 16) rfl (by omega) (by omega), Nat.zero_add, shr_eq]
                                                                                                     simp only [blt_t (show 16 + x10.1 - 15 < 16 + x10.1 by omega), blt_t (show 16 + x10.1 - 2 < 16 + x10.1 by omega), blt_t (show 16 + x10.1 - 7 < 16 + x10.1 by omega), blt_t (show 16 + x10.1 - 16 < 16 + x10.1 by omega), blt_t (show 16 + x10.1 < 16 + x10.1 + 1 by omega), cond_true]
                                                                                                     exact (word_hi (j := 16 + x10.1) (by omega)).symm) (fun j _ he => fill_step he), trivial⟩)) (by dsimp only; omega)
    · have g11 := cnd_dec_f h11
      exact k_out (Ent.of_eq (by
                                                                                                     show AV.agg ((List.range 64).map fun j => .int .u32 (bif Nat.blt j (16 + x10.1) then wordF b j else 0)) = _
                                                                                                     exact congrArg AV.agg (List.map_congr_left fun j hj => by rw [blt_t (by have := List.mem_range.1 hj; omega)]; rfl)))


theorem mix_r (s b w : Nat → Int) (R : Nat → Nat → Int) (hsch : Pure Tryz.prog gl0 216 [bys 64 b] (.agg ((List.range 64).map fun j => .int .u32 (w j)))) (hR : Rnd s w R) : Pure Tryz.prog gl0 185 [.agg ((List.range 8).map fun j => .int .u32 (s j)), bys 64 b] (.agg ((List.range 8).map fun j => .int .u32 (add32 (s j) (R 64 j)))) := by
  refine pure_sk (own := ow0) Tryz.func185 (by kernel_rfl) mixed (by kernel_rfl)
    (.sc (true) 216 ([AV.isl (1) (64) fun (i x : Nat) => Zb (b i)]) (AV.agg (List.map (fun (j : Nat) => Zw (w j)) (List.range (64 : Nat)))) (.req ((0 : Int) ≤ (0 : Int) ∧ (0 : Int) < (↑(8) : Int)) (.req ((0 : Int) ≤ (1 : Int) ∧ (1 : Int) < (↑(8) : Int)) (.req ((0 : Int) ≤ (2 : Int) ∧ (2 : Int) < (↑(8) : Int)) (.req ((0 : Int) ≤ (3 : Int) ∧ (3 : Int) < (↑(8) : Int)) (.req ((0 : Int) ≤ (4 : Int) ∧ (4 : Int) < (↑(8) : Int)) (.req ((0 : Int) ≤ (5 : Int) ∧ (5 : Int) < (↑(8) : Int)) (.req ((0 : Int) ≤ (6 : Int) ∧ (6 : Int) < (↑(8) : Int)) (.req ((0 : Int) ≤ (7 : Int) ∧ (7 : Int) < (↑(8) : Int)) (.loop ({ x : Nat // x ≤ (64 : Nat) }) (fun (x : { x : Nat // x ≤ (64 : Nat) }) => mkSt [2, 4, 5, 6, 7, 8, 9, 10, 11, 12, 13, 37] [AV.own (0) (8) (0) (0) (8), AV.own (1) (8) (0) (0) (8), AV.own (2) (64) (0) (0) (64), Zw (R (x.1) (0 : Nat)), Zw (R (x.1) (1 : Nat)), Zw (R (x.1) (2 : Nat)), Zw (R (x.1) (3 : Nat)), Zw (R (x.1) (4 : Nat)), Zw (R (x.1) (5 : Nat)), Zw (R (x.1) (6 : Nat)), Zw (R (x.1) (7 : Nat)), Zi (↑(x.1) : Int)] [some { es := 8, n := 1, mu := true, f := Rep.lst [[Zw (s (0)), Zw (s (1)), Zw (s (2)), Zw (s (3)), Zw (s (4)), Zw (s (5)), Zw (s (6)), Zw (s (7))]] }, some { es := 8, n := 1, mu := true, f := Rep.lst [[Zw 0, Zw 0, Zw 0, Zw 0, Zw 0, Zw 0, Zw 0, Zw 0]] }, some { es := (64 : Nat), n := (1 : Nat), mu := true, f := Rep.fn fun (x j : Nat) => Zw (w j) }]) (fun (x : { x : Nat // x ≤ (64 : Nat) }) => (64 : Nat) - x.1) (⟨(0 : Nat), Nat.zero_le (64 : Nat)⟩) ([2, 4, 5, 6, 7, 8, 9, 10, 11, 12, 13, 37]) ([0, 8, 32]) ([AV.own (0) (8) (0) (0) (8), AV.own (1) (8) (0) (0) (8), AV.own (2) (64) (0) (0) (64), Zw (s (0)), Zw (s (1)), Zw (s (2)), Zw (s (3)), Zw (s (4)), Zw (s (5)), Zw (s (6)), Zw (s (7)), Zi 0]) ([some { es := 8, n := 1, mu := true, f := Rep.lst [[Zw (s (0)), Zw (s (1)), Zw (s (2)), Zw (s (3)), Zw (s (4)), Zw (s (5)), Zw (s (6)), Zw (s (7))]] }, some { es := 8, n := 1, mu := true, f := Rep.lst [[Zw 0, Zw 0, Zw 0, Zw 0, Zw 0, Zw 0, Zw 0, Zw 0]] }, some { es := 64, n := 1, mu := true, f := Rep.lst [[Zw (w (0)), Zw (w (1)), Zw (w (2)), Zw (w (3)), Zw (w (4)), Zw (w (5)), Zw (w (6)), Zw (w (7)), Zw (w (8)), Zw (w (9)), Zw (w (10)), Zw (w (11)), Zw (w (12)), Zw (w (13)), Zw (w (14)), Zw (w (15)), Zw (w (16)), Zw (w (17)), Zw (w (18)), Zw (w (19)), Zw (w (20)), Zw (w (21)), Zw (w (22)), Zw (w (23)), Zw (w (24)), Zw (w (25)), Zw (w (26)), Zw (w (27)), Zw (w (28)), Zw (w (29)), Zw (w (30)), Zw (w (31)), Zw (w (32)), Zw (w (33)), Zw (w (34)), Zw (w (35)), Zw (w (36)), Zw (w (37)), Zw (w (38)), Zw (w (39)), Zw (w (40)), Zw (w (41)), Zw (w (42)), Zw (w (43)), Zw (w (44)), Zw (w (45)), Zw (w (46)), Zw (w (47)), Zw (w (48)), Zw (w (49)), Zw (w (50)), Zw (w (51)), Zw (w (52)), Zw (w (53)), Zw (w (54)), Zw (w (55)), Zw (w (56)), Zw (w (57)), Zw (w (58)), Zw (w (59)), Zw (w (60)), Zw (w (61)), Zw (w (62)), Zw (w (63))]] }]) (fun x9 => (.br (decide ((↑x9.1 : Int) < (64 : Int))) (.sc (true) 217 ([Zw (R x9.1 (4)), Zi 6]) (Zw (rotr (R x9.1 (4)) (6 : Nat))) (.sc (true) 217 ([Zw (R x9.1 (4)), Zi 11]) (Zw (rotr (R x9.1 (4)) (11 : Nat))) (.sc (true) 217 ([Zw (R x9.1 (4)), Zi 25]) (Zw (rotr (R x9.1 (4)) (25 : Nat))) (.req ((0 : Int) ≤ (↑x9.1 : Int) ∧ (↑x9.1 : Int) < (↑(64) : Int)) (.req ((0 : Int) ≤ (↑x9.1 : Int) ∧ (↑x9.1 : Int) < (↑(64) : Int)) (.sc (true) 217 ([Zw (R x9.1 (0)), Zi 2]) (Zw (rotr (R x9.1 (0)) (2 : Nat))) (.sc (true) 217 ([Zw (R x9.1 (0)), Zi 13]) (Zw (rotr (R x9.1 (0)) (13 : Nat))) (.sc (true) 217 ([Zw (R x9.1 (0)), Zi 22]) (Zw (rotr (R x9.1 (0)) (22 : Nat))) (.again (Again (0) (fun (x : { x : Nat // x ≤ (64 : Nat) }) => mkSt [2, 4, 5, 6, 7, 8, 9, 10, 11, 12, 13, 37] [AV.own (0) (8) (0) (0) (8), AV.own (1) (8) (0) (0) (8), AV.own (2) (64) (0) (0) (64), Zw (R (x.1) (0 : Nat)), Zw (R (x.1) (1 : Nat)), Zw (R (x.1) (2 : Nat)), Zw (R (x.1) (3 : Nat)), Zw (R (x.1) (4 : Nat)), Zw (R (x.1) (5 : Nat)), Zw (R (x.1) (6 : Nat)), Zw (R (x.1) (7 : Nat)), Zi (↑(x.1) : Int)] [some { es := 8, n := 1, mu := true, f := Rep.lst [[Zw (s (0)), Zw (s (1)), Zw (s (2)), Zw (s (3)), Zw (s (4)), Zw (s (5)), Zw (s (6)), Zw (s (7))]] }, some { es := 8, n := 1, mu := true, f := Rep.lst [[Zw 0, Zw 0, Zw 0, Zw 0, Zw 0, Zw 0, Zw 0, Zw 0]] }, some { es := (64 : Nat), n := (1 : Nat), mu := true, f := Rep.fn fun (x j : Nat) => Zw (w j) }]) (fun (x : { x : Nat // x ≤ (64 : Nat) }) => (64 : Nat) - x.1) x9) ([2, 4, 5, 6, 7, 8, 9, 10, 11, 12, 13, 37]) ([0, 1, 2]) ([AV.own (0) (8) (0) (0) (8), AV.own (1) (8) (0) (0) (8), AV.own (2) (64) (0) (0) (64), Zw (IntKind.wrap IntKind.u32 (IntKind.wrap IntKind.u32 (IntKind.wrap IntKind.u32 (IntKind.wrap IntKind.u32 (IntKind.wrap IntKind.u32 (R x9.1 (7) + IntKind.wrap IntKind.u32 (↑(BitVec.toNat (BitVec.ofInt (32) (IntKind.wrap IntKind.u32 (↑(BitVec.toNat (BitVec.ofInt (32) (rotr (R x9.1 (4)) (6)) ^^^ BitVec.ofInt (32) (rotr (R x9.1 (4)) (11)))) : Int)) ^^^ BitVec.ofInt (32) (rotr (R x9.1 (4)) (25)))) : Int)) + IntKind.wrap IntKind.u32 (↑(BitVec.toNat (BitVec.ofInt (32) (IntKind.wrap IntKind.u32 (↑(BitVec.toNat (BitVec.ofInt (32) (R x9.1 (4)) &&& BitVec.ofInt (32) (R x9.1 (5)))) : Int)) ^^^ BitVec.ofInt (32) (IntKind.wrap IntKind.u32 (↑(BitVec.toNat (BitVec.ofInt (32) (IntKind.wrap IntKind.u32 (↑(BitVec.toNat (BitVec.ofInt (32) (if false = true then (-1 : Int) else IntKind.max IntKind.u32) ^^^ BitVec.ofInt (32) (R x9.1 (4)))) : Int)) &&& BitVec.ofInt (32) (R x9.1 (6)))) : Int)))) : Int)) + kF (Int.toNat (↑x9.1 : Int))) + w (0 + Int.toNat (↑x9.1 : Int))) + IntKind.wrap IntKind.u32 (IntKind.wrap IntKind.u32 (↑(BitVec.toNat (BitVec.ofInt (32) (IntKind.wrap IntKind.u32 (↑(BitVec.toNat (BitVec.ofInt (32) (rotr (R x9.1 (0)) (2)) ^^^ BitVec.ofInt (32) (rotr (R x9.1 (0)) (13)))) : Int)) ^^^ BitVec.ofInt (32) (rotr (R x9.1 (0)) (22)))) : Int) + IntKind.wrap IntKind.u32 (↑(BitVec.toNat (BitVec.ofInt (32) (IntKind.wrap IntKind.u32 (↑(BitVec.toNat (BitVec.ofInt (32) (IntKind.wrap IntKind.u32 (↑(BitVec.toNat (BitVec.ofInt (32) (R x9.1 (0)) &&& BitVec.ofInt (32) (R x9.1 (1)))) : Int)) ^^^ BitVec.ofInt (32) (IntKind.wrap IntKind.u32 (↑(BitVec.toNat (BitVec.ofInt (32) (R x9.1 (0)) &&& BitVec.ofInt (32) (R x9.1 (2)))) : Int)))) : Int)) ^^^ BitVec.ofInt (32) (IntKind.wrap IntKind.u32 (↑(BitVec.toNat (BitVec.ofInt (32) (R x9.1 (1)) &&& BitVec.ofInt (32) (R x9.1 (2)))) : Int)))) : Int)))), Zw (R x9.1 (0)), Zw (R x9.1 (1)), Zw (R x9.1 (2)), Zw (IntKind.wrap IntKind.u32 (R x9.1 (3) + IntKind.wrap IntKind.u32 (IntKind.wrap IntKind.u32 (IntKind.wrap IntKind.u32 (IntKind.wrap IntKind.u32 (R x9.1 (7) + IntKind.wrap IntKind.u32 (↑(BitVec.toNat (BitVec.ofInt (32) (IntKind.wrap IntKind.u32 (↑(BitVec.toNat (BitVec.ofInt (32) (rotr (R x9.1 (4)) (6)) ^^^ BitVec.ofInt (32) (rotr (R x9.1 (4)) (11)))) : Int)) ^^^ BitVec.ofInt (32) (rotr (R x9.1 (4)) (25)))) : Int)) + IntKind.wrap IntKind.u32 (↑(BitVec.toNat (BitVec.ofInt (32) (IntKind.wrap IntKind.u32 (↑(BitVec.toNat (BitVec.ofInt (32) (R x9.1 (4)) &&& BitVec.ofInt (32) (R x9.1 (5)))) : Int)) ^^^ BitVec.ofInt (32) (IntKind.wrap IntKind.u32 (↑(BitVec.toNat (BitVec.ofInt (32) (IntKind.wrap IntKind.u32 (↑(BitVec.toNat (BitVec.ofInt (32) (if false = true then (-1 : Int) else IntKind.max IntKind.u32) ^^^ BitVec.ofInt (32) (R x9.1 (4)))) : Int)) &&& BitVec.ofInt (32) (R x9.1 (6)))) : Int)))) : Int)) + kF (Int.toNat (↑x9.1 : Int))) + w (0 + Int.toNat (↑x9.1 : Int))))), Zw (R x9.1 (4)), Zw (R x9.1 (5)), Zw (R x9.1 (6)), Zi (IntKind.wrap IntKind.i64 ((↑x9.1 : Int) + (1 : Int)))]) ([some { es := 8, n := 1, mu := true, f := Rep.lst [[Zw (s (0)), Zw (s (1)), Zw (s (2)), Zw (s (3)), Zw (s (4)), Zw (s (5)), Zw (s (6)), Zw (s (7))]] }, some { es := 8, n := 1, mu := true, f := Rep.lst [[Zw 0, Zw 0, Zw 0, Zw 0, Zw 0, Zw 0, Zw 0, Zw 0]] }, some { es := 64, n := 1, mu := true, f := Rep.fn fun (i j : Nat) => Zw (w j) }])))))))))) (.loop ({ x : Nat // x ≤ (8 : Nat) }) (fun (x : { x : Nat // x ≤ (8 : Nat) }) => mkSt [2, 4, 108, 109] [AV.own (0) (8) (0) (0) (8), AV.own (1) (8) (0) (0) (8), AV.agg (List.map (fun (j : Nat) => Zw (R (64 : Nat) j)) (List.range (8 : Nat))), Zi (↑(x.1) : Int)] [some { es := (8 : Nat), n := (1 : Nat), mu := true, f := Rep.fn fun (x_1 j : Nat) => Zw (bif Nat.blt j (x.1) then add32 (s j) (R (64 : Nat) j) else s j) }, some { es := 8, n := 1, mu := true, f := Rep.lst [[Zw 0, Zw 0, Zw 0, Zw 0, Zw 0, Zw 0, Zw 0, Zw 0]] }]) (fun (x : { x : Nat // x ≤ (8 : Nat) }) => (8 : Nat) - x.1) (⟨(0 : Nat), Nat.zero_le (8 : Nat)⟩) ([2, 4, 108, 109]) ([0, 1]) ([AV.own (0) (8) (0) (0) (8), AV.own (1) (8) (0) (0) (8), AV.agg [Zw (R x9.1 (0)), Zw (R x9.1 (1)), Zw (R x9.1 (2)), Zw (R x9.1 (3)), Zw (R x9.1 (4)), Zw (R x9.1 (5)), Zw (R x9.1 (6)), Zw (R x9.1 (7))], Zi 0]) ([some { es := 8, n := 1, mu := true, f := Rep.lst [[Zw (s (0)), Zw (s (1)), Zw (s (2)), Zw (s (3)), Zw (s (4)), Zw (s (5)), Zw (s (6)), Zw (s (7))]] }, some { es := 8, n := 1, mu := true, f := Rep.lst [[Zw 0, Zw 0, Zw 0, Zw 0, Zw 0, Zw 0, Zw 0, Zw 0]] }]) (fun x20 => (.br (decide ((↑x20.1 : Int) < (8 : Int))) (.req ((0 : Int) ≤ (↑x20.1 : Int) ∧ (↑x20.1 : Int) < (↑(8) : Int)) (.req ((0 : Int) ≤ (↑x20.1 : Int) ∧ (↑x20.1 : Int) < (↑(8) : Int)) (.req ((0 : Int) ≤ (↑x20.1 : Int) ∧ (↑x20.1 : Int) < (↑(8) : Int)) (.again (Again (0) (fun (x : { x : Nat // x ≤ (8 : Nat) }) => mkSt [2, 4, 108, 109] [AV.own (0) (8) (0) (0) (8), AV.own (1) (8) (0) (0) (8), AV.agg (List.map (fun (j : Nat) => Zw (R (64 : Nat) j)) (List.range (8 : Nat))), Zi (↑(x.1) : Int)] [some { es := (8 : Nat), n := (1 : Nat), mu := true, f := Rep.fn fun (x_1 j : Nat) => Zw (bif Nat.blt j (x.1) then add32 (s j) (R (64 : Nat) j) else s j) }, some { es := 8, n := 1, mu := true, f := Rep.lst [[Zw 0, Zw 0, Zw 0, Zw 0, Zw 0, Zw 0, Zw 0, Zw 0]] }]) (fun (x : { x : Nat // x ≤ (8 : Nat) }) => (8 : Nat) - x.1) x20) ([2, 4, 108, 109]) ([0, 1]) ([AV.own (0) (8) (0) (0) (8), AV.own (1) (8) (0) (0) (8), AV.agg [Zw (R (64) (0)), Zw (R (64) (1)), Zw (R (64) (2)), Zw (R (64) (3)), Zw (R (64) (4)), Zw (R (64) (5)), Zw (R (64) (6)), Zw (R (64) (7))], Zi (IntKind.wrap IntKind.i64 ((↑x20.1 : Int) + (1 : Int)))]) ([some { es := 8, n := 1, mu := true, f := Rep.fn fun (i j : Nat) => Zw (bif Nat.beq i (0) && Nat.beq j (0 + Int.toNat (↑x20.1 : Int)) then IntKind.wrap IntKind.u32 ((bif Nat.blt (0 + Int.toNat (↑x20.1 : Int)) x20.1 then add32 (s (0 + Int.toNat (↑x20.1 : Int))) (R (64) (0 + Int.toNat (↑x20.1 : Int))) else s (0 + Int.toNat (↑x20.1 : Int))) + intOfAV (atL [Zw (R (64 : Nat) (0)), Zw (R (64 : Nat) (1)), Zw (R (64 : Nat) (2)), Zw (R (64 : Nat) (3)), Zw (R (64 : Nat) (4)), Zw (R (64 : Nat) (5)), Zw (R (64 : Nat) (6)), Zw (R (64 : Nat) (7))] (Int.toNat (↑x20.1 : Int)))) else bif Nat.blt j x20.1 then add32 (s j) (R (64) j) else s j) }, some { es := 8, n := 1, mu := true, f := Rep.lst [[Zw 0, Zw 0, Zw 0, Zw 0, Zw 0, Zw 0, Zw 0, Zw 0]] }]))))) (.out (AV.agg [Zw (bif Nat.blt (0) x20.1 then add32 (s (0)) (R (64) (0)) else s (0)), Zw (bif Nat.blt (1) x20.1 then add32 (s (1)) (R (64) (1)) else s (1)), Zw (bif Nat.blt (2) x20.1 then add32 (s (2)) (R (64) (2)) else s (2)), Zw (bif Nat.blt (3) x20.1 then add32 (s (3)) (R (64) (3)) else s (3)), Zw (bif Nat.blt (4) x20.1 then add32 (s (4)) (R (64) (4)) else s (4)), Zw (bif Nat.blt (5) x20.1 then add32 (s (5)) (R (64) (5)) else s (5)), Zw (bif Nat.blt (6) x20.1 then add32 (s (6)) (R (64) (6)) else s (6)), Zw (bif Nat.blt (7) x20.1 then add32 (s (7)) (R (64) (7)) else s (7))]) [] (AV.agg (List.map (fun (j : Nat) => Zw (add32 (s j) (R (64 : Nat) j))) (List.range (8 : Nat)))) []))))))))))))))))
    (by kernel_rfl) ?_
  refine k_sc (hsch) ?_
  refine k_req (by first | omega | (simp only [Int.toNat_natCast]; omega)) ?_
  refine k_req (by first | omega | (simp only [Int.toNat_natCast]; omega)) ?_
  refine k_req (by first | omega | (simp only [Int.toNat_natCast]; omega)) ?_
  refine k_req (by first | omega | (simp only [Int.toNat_natCast]; omega)) ?_
  refine k_req (by first | omega | (simp only [Int.toNat_natCast]; omega)) ?_
  refine k_req (by first | omega | (simp only [Int.toNat_natCast]; omega)) ?_
  refine k_req (by first | omega | (simp only [Int.toNat_natCast]; omega)) ?_
  refine k_req (by first | omega | (simp only [Int.toNat_natCast]; omega)) ?_
  refine k_loop (fun _ hs => hs.le (⟨by first | exact Ent.refl _ | exact inc_ent (by omega) | exact Ent.nil rfl | exact Ent.of_eq (congrArg (AV.osl _ _ _) (by first | omega | (dsimp only; omega))) | exact Ent.of_eq (congrArg (AV.int _) (by first | omega | (dsimp only; omega))), by first | exact Ent.refl _ | exact inc_ent (by omega) | exact Ent.nil rfl | exact Ent.of_eq (congrArg (AV.osl _ _ _) (by first | omega | (dsimp only; omega))) | exact Ent.of_eq (congrArg (AV.int _) (by first | omega | (dsimp only; omega))), by first | exact Ent.refl _ | exact inc_ent (by omega) | exact Ent.nil rfl | exact Ent.of_eq (congrArg (AV.osl _ _ _) (by first | omega | (dsimp only; omega))) | exact Ent.of_eq (congrArg (AV.int _) (by first | omega | (dsimp only; omega))), Ent.of_eq (congrArg _ (hR.z 0).symm), Ent.of_eq (congrArg _ (hR.z 1).symm), Ent.of_eq (congrArg _ (hR.z 2).symm), Ent.of_eq (congrArg _ (hR.z 3).symm), Ent.of_eq (congrArg _ (hR.z 4).symm), Ent.of_eq (congrArg _ (hR.z 5).symm), Ent.of_eq (congrArg _ (hR.z 6).symm), Ent.of_eq (congrArg _ (hR.z 7).symm), by first | exact Ent.refl _ | exact inc_ent (by omega) | exact Ent.nil rfl | exact Ent.of_eq (congrArg (AV.osl _ _ _) (by first | omega | (dsimp only; omega))) | exact Ent.of_eq (congrArg (AV.int _) (by first | omega | (dsimp only; omega))), trivial⟩) (⟨by first | exact ObEnt.refl _ | exact ObEnt.junk | exact ObEnt.zero | exact ObEnt.push rfl rfl | exact ObEnt.pushRow rfl | exact ObEnt.len (by omega) | exact ObEnt.row (by repeat' (first | exact trivial | (first | exact Ent.refl _ | exact inc_ent (by omega) | exact Ent.nil rfl | exact Ent.of_eq (congrArg (AV.osl _ _ _) (by first | omega | (dsimp only; omega))) | exact Ent.of_eq (congrArg (AV.int _) (by first | omega | (dsimp only; omega)))) | refine And.intro ?_ ?_)), by first | exact ObEnt.refl _ | exact ObEnt.junk | exact ObEnt.zero | exact ObEnt.push rfl rfl | exact ObEnt.pushRow rfl | exact ObEnt.len (by omega) | exact ObEnt.row (by repeat' (first | exact trivial | (first | exact Ent.refl _ | exact inc_ent (by omega) | exact Ent.nil rfl | exact Ent.of_eq (congrArg (AV.osl _ _ _) (by first | omega | (dsimp only; omega))) | exact Ent.of_eq (congrArg (AV.int _) (by first | omega | (dsimp only; omega)))) | refine And.intro ?_ ?_)), ObEnt.rowR rfl, trivial⟩)) (fun x9 => ?_)
  try (have q9 := x9.2; dsimp only at q9)
  refine k_br (fun h10 => ?_) (fun h10 => ?_)
  · have g10 := cnd_dec_t h10
    refine k_sc ((fun (x : Int) => right_c x (6 : Nat)) (R x9.1 (4)) (by first | assumption | omega) (by first | assumption | omega)) ?_
    refine k_sc ((fun (x : Int) => right_c x (11 : Nat)) (R x9.1 (4)) (by first | assumption | omega) (by first | assumption | omega)) ?_
    refine k_sc ((fun (x : Int) => right_c x (25 : Nat)) (R x9.1 (4)) (by first | assumption | omega) (by first | assumption | omega)) ?_
    refine k_req (by first | omega | (simp only [Int.toNat_natCast]; omega)) ?_
    refine k_req (by first | omega | (simp only [Int.toNat_natCast]; omega)) ?_
    refine k_sc ((fun (x : Int) => right_c x (2 : Nat)) (R x9.1 (0)) (by first | assumption | omega) (by first | assumption | omega)) ?_
    refine k_sc ((fun (x : Int) => right_c x (13 : Nat)) (R x9.1 (0)) (by first | assumption | omega) (by first | assumption | omega)) ?_
    refine k_sc ((fun (x : Int) => right_c x (22 : Nat)) (R x9.1 (0)) (by first | assumption | omega) (by first | assumption | omega)) ?_
    exact k_again (⟨x9.1 + 1, by omega⟩) (fun _ hs => hs.le (⟨by first | exact Ent.refl _ | exact inc_ent (by omega) | exact Ent.nil rfl | exact Ent.of_eq (congrArg (AV.osl _ _ _) (by first | omega | (dsimp only; omega))) | exact Ent.of_eq (congrArg (AV.int _) (by first | omega | (dsimp only; omega))), by first | exact Ent.refl _ | exact inc_ent (by omega) | exact Ent.nil rfl | exact Ent.of_eq (congrArg (AV.osl _ _ _) (by first | omega | (dsimp only; omega))) | exact Ent.of_eq (congrArg (AV.int _) (by first | omega | (dsimp only; omega))), by first | exact Ent.refl _ | exact inc_ent (by omega) | exact Ent.nil rfl | exact Ent.of_eq (congrArg (AV.osl _ _ _) (by first | omega | (dsimp only; omega))) | exact Ent.of_eq (congrArg (AV.int _) (by first | omega | (dsimp only; omega))), Ent.of_eq (congrArg _ (by rw [hR.s0]; simp only [Nat.zero_add, Int.toNat_natCast]; rfl)), Ent.of_eq (congrArg _ (hR.s1 _).symm), Ent.of_eq (congrArg _ (hR.s2 _).symm), Ent.of_eq (congrArg _ (hR.s3 _).symm), Ent.of_eq (congrArg _ (by rw [hR.s4]; simp only [Nat.zero_add, Int.toNat_natCast]; rfl)), Ent.of_eq (congrArg _ (hR.s5 _).symm), Ent.of_eq (congrArg _ (hR.s6 _).symm), Ent.of_eq (congrArg _ (hR.s7 _).symm), by first | exact Ent.refl _ | exact inc_ent (by omega) | exact Ent.nil rfl | exact Ent.of_eq (congrArg (AV.osl _ _ _) (by first | omega | (dsimp only; omega))) | exact Ent.of_eq (congrArg (AV.int _) (by first | omega | (dsimp only; omega))), trivial⟩) (by repeat' (first | exact trivial | (first | exact ObEnt.refl _ | exact ObEnt.junk | exact ObEnt.zero | exact ObEnt.push rfl rfl | exact ObEnt.pushRow rfl | exact ObEnt.len (by omega) | exact ObEnt.row (by repeat' (first | exact trivial | (first | exact Ent.refl _ | exact inc_ent (by omega) | exact Ent.nil rfl | exact Ent.of_eq (congrArg (AV.osl _ _ _) (by first | omega | (dsimp only; omega))) | exact Ent.of_eq (congrArg (AV.int _) (by first | omega | (dsimp only; omega)))) | refine And.intro ?_ ?_))) | refine And.intro ?_ ?_))) (by first | omega | (dsimp only; omega) | (simp; omega))
  · have g10 := cnd_dec_f h10
    refine k_loop (fun _ hs => hs.le (⟨by first | exact Ent.refl _ | exact inc_ent (by omega) | exact Ent.nil rfl | exact Ent.of_eq (congrArg (AV.osl _ _ _) (by first | omega | (dsimp only; omega))) | exact Ent.of_eq (congrArg (AV.int _) (by first | omega | (dsimp only; omega))), by first | exact Ent.refl _ | exact inc_ent (by omega) | exact Ent.nil rfl | exact Ent.of_eq (congrArg (AV.osl _ _ _) (by first | omega | (dsimp only; omega))) | exact Ent.of_eq (congrArg (AV.int _) (by first | omega | (dsimp only; omega))), Ent.of_eq (by
                                                                                                     have e : x9.1 = 64 := by omega
                                                                                                     rw [e]
                                                                                                     rfl), by first | exact Ent.refl _ | exact inc_ent (by omega) | exact Ent.nil rfl | exact Ent.of_eq (congrArg (AV.osl _ _ _) (by first | omega | (dsimp only; omega))) | exact Ent.of_eq (congrArg (AV.int _) (by first | omega | (dsimp only; omega))), trivial⟩) (⟨ObEnt.rowR rfl, by first | exact ObEnt.refl _ | exact ObEnt.junk | exact ObEnt.zero | exact ObEnt.push rfl rfl | exact ObEnt.pushRow rfl | exact ObEnt.len (by omega) | exact ObEnt.row (by repeat' (first | exact trivial | (first | exact Ent.refl _ | exact inc_ent (by omega) | exact Ent.nil rfl | exact Ent.of_eq (congrArg (AV.osl _ _ _) (by first | omega | (dsimp only; omega))) | exact Ent.of_eq (congrArg (AV.int _) (by first | omega | (dsimp only; omega)))) | refine And.intro ?_ ?_)), trivial⟩)) (fun x20 => ?_)
    refine k_br (fun h21 => ?_) (fun h21 => ?_)
    · have g21 := cnd_dec_t h21
      refine k_req (by first | omega | (simp only [Int.toNat_natCast]; omega)) ?_
      refine k_req (by first | omega | (simp only [Int.toNat_natCast]; omega)) ?_
      refine k_req (by first | omega | (simp only [Int.toNat_natCast]; omega)) ?_
      exact k_again (⟨x20.1 + 1, by omega⟩) (fun _ hs => hs.le (by repeat' (first | exact trivial | (first | exact Ent.refl _ | exact inc_ent (by omega) | exact Ent.nil rfl | exact Ent.of_eq (congrArg (AV.osl _ _ _) (by first | omega | (dsimp only; omega))) | exact Ent.of_eq (congrArg (AV.int _) (by first | omega | (dsimp only; omega)))) | refine And.intro ?_ ?_)) (⟨ObEnt.setR (P := fun i j => Nat.beq i 0 && Nat.beq j (0 + Int.toNat ((x20.1 : Nat) : Int))) (c0 := x20.1) (G := fun j => bif Nat.blt j (x20.1 + 1) then add32 (s j) (R 64 j) else s j) (fun j _ => by show (true && Nat.beq j (0 + x20.1)) = _; rw [Nat.zero_add]; rfl) (by
                                                                                                     simp only [Nat.zero_add, Int.toNat_natCast, blt_f (Nat.le_refl x20.1), blt_t (Nat.lt_succ_self x20.1), cond_true, cond_false]
                                                                                                     exact congrArg (fun z => IntKind.wrap .u32 (s x20.1 + z)) (congrArg intOfAV (atL_map_range (es := 8) (g := fun j => AV.int .u32 (R 64 j)) (by omega)))) (fun j _ he => fill_step2 (F := fun j => add32 (s j) (R 64 j)) (z := s) he), by first | exact ObEnt.refl _ | exact ObEnt.junk | exact ObEnt.zero | exact ObEnt.push rfl rfl | exact ObEnt.pushRow rfl | exact ObEnt.len (by omega) | exact ObEnt.row (by repeat' (first | exact trivial | (first | exact Ent.refl _ | exact inc_ent (by omega) | exact Ent.nil rfl | exact Ent.of_eq (congrArg (AV.osl _ _ _) (by first | omega | (dsimp only; omega))) | exact Ent.of_eq (congrArg (AV.int _) (by first | omega | (dsimp only; omega)))) | refine And.intro ?_ ?_)), trivial⟩)) (by first | omega | (dsimp only; omega) | (simp; omega))
    · have g21 := cnd_dec_f h21
      exact k_out (Ent.of_eq (by
                                                                                                     show AV.agg ((List.range 8).map fun j => .int .u32 (bif Nat.blt j x20.1 then add32 (s j) (R 64 j) else s j)) = _
                                                                                                     exact congrArg AV.agg (List.map_congr_left fun j hj => by rw [blt_t (by have := List.mem_range.1 hj; omega)]; rfl)))

theorem mix_c (s b : Nat → Int) (hb : byB b 64) : Pure Tryz.prog gl0 185 [.agg ((List.range 8).map fun j => .int .u32 (s j)), bys 64 b] (.agg ((List.range 8).map fun j => .int .u32 (mixF s b j))) :=
  mix_r s b (wordF b) (roundF s (wordF b)) (schedule_c b hb) (rnd s (wordF b))

end Go.Proofs.YtbmdmoknnlhdoaaGreatDoor.Z
