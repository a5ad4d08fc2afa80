/- Part of the proof: EnLib, Cns, Cns2, Cns3, Cns4, Cns5, Bst, SpMath, Cns6, EnArg, Cns7, TrydShelfP, LL1, LL2. -/
import Derived.Test.YtbmdmoknnlhdoaaDoorM2
import Derived.Lib.LaidTab
import Derived.Lib.ItoaMem
import Derived.Lib.AtoiAllCases
import Derived.Lib.SplitLaws
import Derived.Lib.Replace
import Derived.Lib.Fields
import Derived.Lib.Join
import Derived.Shelf.Strings.Builder1
import Derived.Shelf.Strings.Builder2
import Derived.Shelf.Strings.OnBuilder
import Derived.Shelf.Strconv.Atoi
import Derived.Shelf.Strconv.Itoa0
import Derived.Shelf.Strconv.Itoa1
import Derived.Shelf.LaysM
import Derived.Shelf.Strconv.Itoa2
import Derived.Shelf.Strconv.Itoa3
import Derived.Shelf.Strconv.AtoiErrFast
import Derived.Shelf.Strconv.ParseIntEmpty
import Derived.Shelf.Strconv.AtoiFail
import Derived.Shelf.Strconv.Clone
import Derived.Shelf.Strconv.SyntaxError
import Derived.Shelf.LaysC
import Derived.Shelf.Strconv.ToError
import Derived.Shelf.Strconv.Lower
import Derived.Shelf.Strconv.ParseUint10
import Derived.Shelf.Strconv.ParseUint10Empty
import Derived.Shelf.Strconv.ParseUint10Any
import Derived.Shelf.Strconv.ParseInt10
import Derived.Shelf.Strconv.AtoiLong
import Derived.Shelf.Strconv.AtoiInnerAll
import Derived.Shelf.Strconv.RangeError
import Derived.Shelf.Strconv.ToErrorRange
import Derived.Shelf.Strconv.AtoiAll
import Derived.Shelf.Strconv.ErrVarAll
import Derived.Shelf.Strings.Search1
import Derived.Shelf.Strings.Search2
import Derived.Shelf.Strings.Search3
import Derived.Shelf.Strings.Cut
import Derived.Shelf.Strings.Count
import Derived.Shelf.Strings.Shaped
import Derived.Shelf.Strings.Prefix
import Derived.Shelf.Strings.Split
import Derived.Shelf.Strings.Fields
import Derived.Shelf.Strings.Replace
import Derived.Shelf.Strings.SplitShaped
import Derived.Shelf.Unicode.Latin
import Derived.Shelf.Unicode.DecodeSlow
import Derived.Shelf.Unicode.DecodeAny
import Derived.Shelf.Unicode.Is16White
import Derived.Shelf.Unicode.IsSpaceAny
import Derived.Shelf.Unicode.Is16Any
import Derived.Shelf.Unicode.Is32Any
import Derived.Shelf.Unicode.ExclAny
import Derived.Test.YtbmdmoknnlhdoaaDoorProg
namespace Go.Am
open Go Go.RowKit

theorem pure_of {P : Program} {gl : Globs} {f : FuncId} {args : List AV} {r : AV} (hE : Enters P f)
    (h : ∀ (β : Book) (w : World) (vs : Array Value), (∀ b, w.heap.size ≤ b → β.free b) → GlobB gl β w → Rels β w args vs → Calls P f vs w fun e w' => ∃ v, e = .returned v ∧ Below w.heap.size w w' ∧ Rel β w' r v) : Pure P gl f args r := by
  refine ⟨hE, fun β w vs hF hG hg ha => ?_⟩
  have hn : ∀ k, β.m k = none := fun k => hG.none k (Nat.zero_le _)
  refine (h β w vs (fun b hb => ⟨fun hf => absurd (hF b hf) (by omega), fun id n hm => by rw [hn] at hm; cases hm⟩) hg ha).mono fun e w' hh => ?_
  obtain ⟨v, he, hb, hr⟩ := hh
  exact ⟨v, β, he, Kept.ofBelow _ hb, ⟨rfl, fun k ob hk => by simp at hk, fun k _ => hn k, (fun i j b n n' mu mu' e1 => by rw [hn] at e1; cases e1), (fun k b n mu e1 => by rw [hn] at e1; cases e1), (fun k o e1 => by rw [hn] at e1; cases e1)⟩, hr⟩

theorem rels1 {β : Book} {w : World} {a : AV} {vs : Array Value} (h : Rels β w [a] vs) : ∃ v, vs = #[v] ∧ Rel β w a v := by
  have hl := h.len
  match vs, hl, h with
  | ⟨[v]⟩, _, h => exact ⟨v, rfl, h.rel 0 _ _ rfl rfl⟩
theorem rels2 {β : Book} {w : World} {a b : AV} {vs : Array Value} (h : Rels β w [a, b] vs) : ∃ u v, vs = #[u, v] ∧ Rel β w a u ∧ Rel β w b v := by
  have hl := h.len
  match vs, hl, h with
  | ⟨[u, v]⟩, _, h => exact ⟨u, v, rfl, h.rel 0 _ _ rfl rfl, h.rel 1 _ _ rfl rfl⟩
theorem alloc_below {w : World} {o : Obj} : Below w.heap.size w (w.alloc o) := (Below.refl _ _).alloc (Nat.le_refl _) _
theorem alloc_blk {w : World} {cs : Array Value} {t : TypeId} : (w.alloc (.cells cs t)).heap[w.heap.size]? = some (.cells cs t (0, 0)) := by
  show (w.heap.push (.cells cs t (0, 0)))[w.heap.size]? = _
  simp
theorem alloc_cell {w : World} {cs : Array Value} {t : TypeId} (j : Nat) : (w.alloc (.cells cs t)).cell? ⟨w.heap.size, j, none⟩ = cs[j]? := by
  simp only [World.cell?, alloc_blk]
  rfl

theorem rel_strs {β : Book} {w : World} (hf : β.free w.heap.size) (l : List ByteArray) (t : TypeId) :
    Rel β (w.alloc (.cells (l.map Value.string).toArray t)) (.isl 1 l.length fun i _ => .str (l.getD i .empty)) (.slice (some ⟨w.heap.size, 0, none⟩) l.length l.length) := by
  refine .isl (fun i _ => .string (l.getD i .empty)) (by decide) (Nat.le_refl _) hf (fun i j hi hj => ?_) (fun _ _ _ _ => rfl) (fun _ _ _ _ => .str) (fun _ _ _ _ => .str)
  obtain rfl : j = 0 := Nat.lt_one_iff.1 hj
  rw [alloc_cell]
  simp [List.getD_eq_getElem?_getD, hi]

theorem gives_strs {P : Program} {gl : Globs} {f : FuncId} {args : List AV} {l : List ByteArray} {R : Rep} (hE : Enters P f) (hR : ∀ i, i < l.length → R.at i 0 = .str (l.getD i .empty))
    (h : ∀ (β : Book) (w : World) (vs : Array Value), GlobB gl β w → Rels β w args vs →
      Calls P f vs w fun e w' => e = .returned (.slice (some ⟨w.heap.size, 0, none⟩) l.length l.length) ∧ ∃ t, w' = w.alloc (.cells (l.map Value.string).toArray t)) :
    Gives P gl f [] args (.osl 0 1 0 l.length) [some ⟨1, l.length, true, R⟩] := by
  refine ⟨hE, fun β w vs hF hG hg ha => ?_⟩
  have hn : ∀ k, β.m k = none := fun k => hG.none k (Nat.zero_le _)
  refine (h β w vs hg ha).mono fun e w' hh => ?_
  obtain ⟨he, t, rfl⟩ := hh
  have hblk : (w.alloc (.cells (l.map Value.string).toArray t)).heap[w.heap.size]? = some (.cells (l.map Value.string).toArray t (0, 0)) := alloc_blk
  refine ⟨_, ⟨fun k => if k = 0 then some (.lives w.heap.size l.length true) else none, β.F⟩, he, Kept.ofBelow _ alloc_below, ⟨rfl, fun k ob hk => ?_, fun k hk => if_neg (by simp at hk; omega), fun i j b n n' mu mu' e1 e2 => ?_, fun k b n mu e1 => ?_, fun k o e1 => by rw [hn] at e1; cases e1⟩, ?_⟩
  · cases k with
    | succ k => simp at hk
    | zero =>
      simp at hk
      subst hk
      refine .inl ⟨w.heap.size, (show (if (0 : Nat) = 0 then some (Own.lives w.heap.size l.length true) else none) = _ from if_pos rfl), (l.map Value.string).toArray, t, hblk, by simp, fun i j hi hj => ?_⟩
      have hi' : i < l.length := hi
      obtain rfl : j = 0 := Nat.lt_one_iff.1 hj
      refine ⟨.string (l.getD i .empty), ?_, by rw [hR i hi']; exact .str, rfl⟩
      simp [List.getD_eq_getElem?_getD, hi']
  · have g : ∀ {q b n mu}, (if q = 0 then some (Own.lives w.heap.size l.length true) else none) = some (.lives b n mu) → q = 0 := fun {q} {b} {n} {mu} e => by
      by_cases hq : q = 0
      · exact hq
      · rw [if_neg hq] at e; cases e
    rw [g e1, g e2]
  · by_cases hq : k = 0
    · subst hq
      have : some (Own.lives w.heap.size l.length true) = some (.lives b n mu) := e1
      cases this
      exact ⟨(Array.getElem?_eq_some_iff.1 hblk).1, .inl (Nat.le_refl _)⟩
    · have : (if k = 0 then some (Own.lives w.heap.size l.length true) else none) = some (.lives b n mu) := e1
      rw [if_neg hq] at this; cases this
  · have := Rel.osl (β := ⟨fun k => if k = 0 then some (.lives w.heap.size l.length true) else none, β.F⟩) (w := w.alloc (.cells (l.map Value.string).toArray t)) (id := 0) (es := 1) (i := 0) (len := l.length) (cap := l.length) (sz := l.length) (el := t) (b := w.heap.size) (n := l.length) (mu := true)
      (show (if (0 : Nat) = 0 then some (Own.lives w.heap.size l.length true) else none) = _ from if_pos rfl) (by omega) (Nat.le_refl _) (by unfold World.shape?; rw [hblk]; simp) (by omega)
    simpa using this

theorem glob_cell {β : Book} {w : World} {g m : Nat} {f : Nat → AV} (h : GlobAt β w g m f) {j : Nat} (hj : j < m) {k : IntKind} {n : Int} (e : f j = .int k n) : w.cell? ⟨g, j, none⟩ = some (.int k n) := by
  obtain ⟨b, off, vals, hu, _, _, hc, hr, _⟩ := rel_ipt_inv h.rel
  cases hu
  have := hr j hj
  rw [e] at this
  rw [← rel_int_inv this, ← hc j hj, Nat.zero_add]
theorem glob_ifc {β : Book} {w : World} {g m : Nat} {f : Nat → AV} (h : GlobAt β w g m f) (hj : 0 < m) {t : TypeId} {a : AV} (e : f 0 = .ifc t a) : ∃ v, w.cell? ⟨g, 0, none⟩ = some (.iface t v) := by
  obtain ⟨b, off, vals, hu, _, _, hc, hr, _⟩ := rel_ipt_inv h.rel
  cases hu
  have := hr 0 hj
  rw [e] at this
  have hv := hc 0 hj
  generalize vals 0 = x at this hv
  cases this
  exact ⟨_, hv⟩
theorem glob_tab {P : Program} {β : Book} {w : World} {name : String} {g : Nat} {k : IntKind} {zs : List Int} (hg : P.globalNamed name = some g) (h : GlobAt β w g zs.length fun j => .int k (zs.getD j 0)) : Lib.TabIs P w name k zs := by
  obtain ⟨el, e⟩ := h.size
  unfold World.shape? at e
  split at e
  · rename_i cs el' z hb
    simp only [Option.some.injEq, Prod.mk.injEq] at e
    unfold Lib.TabIs World.var?
    rw [hg, Option.bind_some, hb]
    show some cs = some _
    congr 1
    apply Array.ext
    · simp [e.2]
    · intro j h1 h2
      have hj : j < zs.length := by simpa using h2
      have := glob_cell h hj (k := k) (n := zs.getD j 0) rfl
      simp only [World.cell?, hb] at this
      rw [Array.getElem?_eq_getElem h1] at this
      simp [List.getD_eq_getElem?_getD, hj] at this
      simpa using this
  · cases e
end Go.Am
namespace Go.Am
open Go Go.RowKit
def ifcOk (P : Program) (g : Nat) : Bool :=
  match (P.globals[g]?).map (·.type) with
  | some t =>
    match P.underlying t with
    | some (.interface _) => true
    | _ => false
  | none => false
theorem ifcOk_inv {P : Program} {g : Nat} (h : ifcOk P g = true) : ∃ t ms, (P.globals[g]?).map (·.type) = some t ∧ P.underlying t = some (.interface ms) := by
  unfold ifcOk at h
  split at h
  · rename_i t ht
    split at h
    · rename_i ms hu; exact ⟨t, ms, ht, hu⟩
    · cases h
  · cases h
theorem shape_of_var {P : Program} {w : World} {name : String} {g n : Nat} {cs : Array Value} (hg : P.globalNamed name = some g) (h3 : w.var? P name = some cs) (hsz : cs.size = n) : ∃ el, w.shape? g = some (el, n) := by
  unfold World.var? at h3
  rw [hg] at h3
  unfold World.shape?
  simp only [Option.bind_some] at h3
  split at h3
  · rename_i cs' el z hb'
    cases h3
    exact ⟨el, by rw [hb', ← hsz]⟩
  · cases h3
theorem glob_iface {P : Program} {w : World} {β : Book} {laid : List (String × DataW Unit)} (h : laidMetH P laid w) (hp : (laid.all fun x => x.2.handleName?.isNone) = true) (i : Nat) (name : String) {g : Nat} {nm : String} {d : DataW Unit}
    (hl : laid[i]? = some (name, .iface nm d)) (hg : P.globalNamed name = some g) (ho : ifcOk P g = true) (hb : β.free g) : ∃ u, GlobAt β w g 1 fun _ => .ifc u .junk := by
  obtain ⟨t, ms, ht, hu⟩ := ifcOk_inv ho
  rw [MakeChecks.laidMetH_plain _ _ _ hp] at h
  obtain ⟨ps, hv, _, _⟩ := h
  obtain ⟨g', t', cs, fuel, p, h1, h2, h3, h4⟩ := laid_at hv hl
  obtain rfl := Option.some.inj (hg.symm.trans h1)
  obtain rfl := Option.some.inj (ht.symm.trans h2)
  have key : ∃ u v, cs.toList = [.iface u v] := by
    cases fuel with
    | zero => simp [DataW.trod] at h4
    | succ n =>
      generalize cs.toList = l at h4
      simp only [DataW.trod, hu] at h4
      match l, h4 with
      | [.iface u v], _ => exact ⟨u, v, rfl⟩
      | [], h4 => simp at h4
      | [.nilIface], h4 => simp at h4
      | a :: b :: r, h4 => exfalso; revert h4; cases a <;> simp
      | [.int _ _], h4 => simp at h4
      | [.bool _], h4 => simp at h4
  obtain ⟨u, v, e⟩ := key
  have hc : cs[0]? = some (.iface u v) := by
    have : cs.toList[0]? = some (.iface u v) := by rw [e]; rfl
    simpa using this
  refine ⟨u, .ipt (fun _ => .iface u v) (by decide) hb (fun j hj => ?_) (fun _ _ => rfl) (fun _ _ => .ifc .junk) (fun _ _ => .ifc .junk), shape_of_var hg h3 (by rw [← Array.length_toList, e]; rfl)⟩
  obtain rfl : j = 0 := Nat.lt_one_iff.1 hj
  rw [World.var?_cell hg h3]
  exact hc
end Go.Am

namespace Go.Sp
open Go.Lib

theorem pu_snoc : ∀ (l : List UInt8) (acc v : Nat) (c : UInt8), parseUint10 acc l = .ok v → 48 ≤ c.toNat ∧ c.toNat ≤ 57 → v < 1844674407370955161 → parseUint10 acc (l ++ [c]) = .ok (v * 10 + (c.toNat - 48))
  | [], acc, v, c, h, hc, hv => by
    simp only [parseUint10, NumEnd.ok.injEq] at h
    subst h
    simp only [List.nil_append, parseUint10]
    rw [if_pos hc, if_neg (by omega), if_neg (by omega)]
  | b :: r, acc, v, c, h, hc, hv => by
    simp only [parseUint10] at h
    rw [List.cons_append, parseUint10]
    split at h
    · rename_i h1
      rw [if_pos h1]
      split at h
      · cases h
      · rename_i h2
        rw [if_neg h2]
        split at h
        · cases h
        · rename_i h3
          rw [if_neg h3]
          exact pu_snoc r _ v c h hc hv
    · cases h
theorem ofNat_dig {d : Nat} (h : d < 10) : (UInt8.ofNat (48 + d)).toNat = 48 + d := by
  rw [UInt8.toNat_ofNat']; omega
theorem pu_dec : ∀ (u : Nat), u < 9223372036854775808 → parseUint10 0 (decDigits u) = .ok u := by
  intro u
  induction u using Nat.strongRecOn with
  | ind u ih =>
    intro hu
    rw [decDigits]
    split
    · rename_i h
      simp only [parseUint10]
      rw [ofNat_dig h, if_pos (by omega), if_neg (by omega), if_neg (by omega)]
      congr 1; omega
    · rename_i h
      have k := pu_snoc _ _ _ (UInt8.ofNat (48 + u % 10)) (ih (u / 10) (by omega) (by omega)) (by rw [ofNat_dig (by omega)]; omega) (by omega)
      rw [k, ofNat_dig (by omega)]
      congr 1; omega
theorem dec_digit {u : Nat} : ∀ c ∈ decDigits u, 48 ≤ c.toNat ∧ c.toNat ≤ 57 := by
  induction u using Nat.strongRecOn with
  | ind u ih =>
    intro c hc
    rw [decDigits] at hc
    split at hc
    · rename_i h
      obtain rfl := List.mem_singleton.1 hc
      rw [ofNat_dig h]; omega
    · rename_i h
      rcases List.mem_append.1 hc with hc | hc
      · exact ih (u / 10) (by omega) c hc
      · obtain rfl := List.mem_singleton.1 hc
        rw [ofNat_dig (by omega)]; omega
theorem dec_ne (u : Nat) : decDigits u ≠ [] := by
  rw [decDigits]; split <;> simp
theorem atoi_dec {u : Nat} (h : u < 9223372036854775808) : atoiAll (decDigits u) = .ok (u : Int) := by
  cases hd : decDigits u with
  | nil => exact absurd hd (dec_ne u)
  | cons c r =>
    have hc := dec_digit (u := u) c (by rw [hd]; exact List.mem_cons_self ..)
    rw [atoiAll_plain c r (by omega) (by omega), ← hd]
    have : parseMag (decDigits u) = .ok u := by
      unfold parseMag; rw [if_neg (dec_ne u)]; exact pu_dec u h
    rw [this]
    unfold signless
    simp only
    rw [if_neg (by omega)]
abbrev Str := List UInt8
def numC (s : Str) : Option Int := match atoiAll s with
  | .ok n => if 0 ≤ n ∧ n ≤ 1099511627776 ∧ itoa n = s then some n else none
  | _ => none
theorem numC_iff {s : Str} {n : Int} : numC s = some n ↔ s = itoa n ∧ 0 ≤ n ∧ n ≤ 1099511627776 := by
  constructor
  · intro h
    unfold numC at h
    split at h
    · split at h
      · rename_i h1 h2
        cases h
        exact ⟨h2.2.2.symm, h2.1, h2.2.1⟩
      · cases h
    · cases h
  · rintro ⟨rfl, h1, h2⟩
    obtain ⟨u, rfl⟩ := Int.eq_ofNat_of_zero_le h1
    unfold numC
    rw [itoa_nonneg, atoi_dec (by omega)]
    simp only
    rw [if_pos ⟨by omega, by omega, itoa_nonneg u⟩]
theorem itoa_ne (n : Int) : itoa n ≠ [] := by
  unfold itoa; split
  · simp
  · exact dec_ne _
theorem itoa_byte {n : Int} (h : 0 ≤ n) : ∀ c ∈ itoa n, 48 ≤ c.toNat ∧ c.toNat ≤ 57 := by
  obtain ⟨u, rfl⟩ := Int.eq_ofNat_of_zero_le h
  rw [itoa_nonneg]; exact dec_digit
theorem itoa_inj {n m : Int} (hn : 0 ≤ n ∧ n ≤ 1099511627776) (hm : 0 ≤ m ∧ m ≤ 1099511627776) (h : itoa n = itoa m) : n = m := by
  have h1 := numC_iff.2 ⟨rfl, hn⟩
  have h2 := numC_iff.2 ⟨rfl, hm⟩
  rw [h] at h1
  exact Option.some.inj (h1.symm.trans h2)

structure Cmd where
  kind : Int
  who : Int
  whom : Int
  amount : Int
  honest : Bool
def Cmd.zero : Cmd := ⟨0, 0, 0, 0, false⟩
def Cmd.get (a : Cmd) : Nat → Int
  | 1 => a.who
  | 2 => a.whom
  | _ => a.amount
def Cmd.set (a : Cmd) : Nat → Int → Cmd
  | 1, n => { a with who := n }
  | 2, n => { a with whom := n }
  | _, n => { a with amount := n }
def wWho : Str := [87, 72, 79]
def wWhom : Str := [87, 72, 79, 77]
def wAmount : Str := [65, 77, 79, 85, 78, 84]
def fieldN (w : Str) : Nat := if w = wWho then 1 else if w = wWhom then 2 else if w = wAmount then 3 else 0
structure Form where
  kind : Int
  ws : List Str
  whom : Int
def wWithdraw : Str := [119, 105, 116, 104, 100, 114, 97, 119]
def wPay : Str := [112, 97, 121]
def wTransfer : Str := [116, 114, 97, 110, 115, 102, 101, 114]
def wDeposit : Str := [100, 101, 112, 111, 115, 105, 116]
def wMerchant : Str := [109, 101, 114, 99, 104, 97, 110, 116]
def wHolder : Str := [104, 111, 108, 100, 101, 114]
def wDouble : Str := [100, 111, 117, 98, 108, 101]
def wTrace : Str := [116, 114, 97, 99, 101]
def wClear : Str := [99, 108, 101, 97, 114]
def wTick : Str := [116, 105, 99, 107]
def formL : List Form := [⟨1, [wWithdraw, wWho, wAmount], 0⟩, ⟨2, [wPay, wWho, wWhom, wAmount], 0⟩, ⟨3, [wTransfer, wWho, wWhom, wAmount], 0⟩, ⟨4, [wDeposit, wMerchant, wWho], 0⟩, ⟨4, [wDeposit, wHolder, wWho], 1⟩,
  ⟨5, [wDouble, wWho, wWhom, wAmount], 0⟩, ⟨6, [wTrace, wWho], 0⟩, ⟨7, [wClear], 0⟩, ⟨8, [wTick, wAmount], 0⟩]
def stepM (a : Cmd) (p w : Str) : Option Cmd := if fieldN p = 0 then (if w = p then some a else none) else (numC w).map fun n => a.set (fieldN p) n
def goM : Cmd → List Str → List Str → Option Cmd
  | a, [], [] => some a
  | a, p :: ps, w :: ws => (stepM a p w).bind fun b => goM b ps ws
  | _, _, _ => none
def Form.act (f : Form) : Cmd := ⟨f.kind, 0, f.whom, 0, f.kind != 5⟩
def matchF (f : Form) (ws : List Str) : Option Cmd := goM f.act f.ws ws
def lineF (f : Form) (a : Cmd) : List Str := f.ws.map fun w => if fieldN w = 0 then w else itoa (a.get (fieldN w))
def readF (ws : List Str) : Option Cmd := formL.findSome? fun f => matchF f ws

theorem goM_cons {a b : Cmd} {p : Str} {ps ws : List Str} : goM a (p :: ps) ws = some b ↔ ∃ w r c, ws = w :: r ∧ stepM a p w = some c ∧ goM c ps r = some b := by
  cases ws with
  | nil => simp [goM]
  | cons w r =>
    rw [goM, Option.bind_eq_some_iff]
    constructor
    · rintro ⟨c, h1, h2⟩; exact ⟨w, r, c, rfl, h1, h2⟩
    · rintro ⟨w', r', c, h, h1, h2⟩; cases h; exact ⟨c, h1, h2⟩
theorem goM_nil {a b : Cmd} {ws : List Str} : goM a [] ws = some b ↔ ws = [] ∧ a = b := by
  cases ws with
  | nil => simp [goM]
  | cons w r => simp [goM]
def okN (n : Int) : Prop := 0 ≤ n ∧ n ≤ 1099511627776
theorem stepM_w {a c : Cmd} {p w : Str} (h : fieldN p = 0) : stepM a p w = some c ↔ w = p ∧ a = c := by
  unfold stepM; rw [if_pos h]
  constructor
  · intro k
    split at k
    · rename_i e; cases k; exact ⟨e, rfl⟩
    · cases k
  · rintro ⟨rfl, rfl⟩; rw [if_pos rfl]
theorem stepM_n {a c : Cmd} {p w : Str} {k : Nat} (h : fieldN p = k + 1) : stepM a p w = some c ↔ ∃ n, w = itoa n ∧ okN n ∧ a.set (k + 1) n = c := by
  unfold stepM; rw [h, if_neg (by omega), Option.map_eq_some_iff]
  constructor
  · rintro ⟨n, h1, rfl⟩; exact ⟨n, (numC_iff.1 h1).1, (numC_iff.1 h1).2, rfl⟩
  · rintro ⟨n, rfl, h1, rfl⟩; exact ⟨n, numC_iff.2 ⟨rfl, h1⟩, rfl⟩
inductive Lin : Cmd → List Str → Prop
  | withdraw {x y : Int} (hx : okN x) (hy : okN y) : Lin ⟨1, x, 0, y, true⟩ [wWithdraw, itoa x, itoa y]
  | pay {x y z : Int} (hx : okN x) (hy : okN y) (hz : okN z) : Lin ⟨2, x, y, z, true⟩ [wPay, itoa x, itoa y, itoa z]
  | transfer {x y z : Int} (hx : okN x) (hy : okN y) (hz : okN z) : Lin ⟨3, x, y, z, true⟩ [wTransfer, itoa x, itoa y, itoa z]
  | merchant {x : Int} (hx : okN x) : Lin ⟨4, x, 0, 0, true⟩ [wDeposit, wMerchant, itoa x]
  | holder {x : Int} (hx : okN x) : Lin ⟨4, x, 1, 0, true⟩ [wDeposit, wHolder, itoa x]
  | double {x y z : Int} (hx : okN x) (hy : okN y) (hz : okN z) : Lin ⟨5, x, y, z, false⟩ [wDouble, itoa x, itoa y, itoa z]
  | trace {x : Int} (hx : okN x) : Lin ⟨6, x, 0, 0, true⟩ [wTrace, itoa x]
  | clear : Lin ⟨7, 0, 0, 0, true⟩ [wClear]
  | tick {x : Int} (hx : okN x) : Lin ⟨8, 0, 0, x, true⟩ [wTick, itoa x]
theorem f_who : fieldN wWho = 0 + 1 := by decide
theorem f_whom : fieldN wWhom = 1 + 1 := by decide
theorem f_am : fieldN wAmount = 2 + 1 := by decide
theorem m1 {k : Int} {b : Bool} {W : Str} (h : fieldN W = 0) {ws : List Str} {a : Cmd} : goM ⟨k, 0, 0, 0, b⟩ [W, wWho, wAmount] ws = some a ↔ ∃ x y, okN x ∧ okN y ∧ ws = [W, itoa x, itoa y] ∧ a = ⟨k, x, 0, y, b⟩ := by
  simp only [goM_cons, goM_nil, stepM_w h, stepM_n f_who, stepM_n f_am]
  constructor
  · rintro ⟨w, r, c, rfl, ⟨rfl, rfl⟩, w1, r1, c1, rfl, ⟨x, rfl, hx, rfl⟩, w2, r2, c2, rfl, ⟨y, rfl, hy, rfl⟩, rfl, rfl⟩
    exact ⟨x, y, hx, hy, rfl, rfl⟩
  · rintro ⟨x, y, hx, hy, rfl, rfl⟩
    exact ⟨_, _, _, rfl, ⟨rfl, rfl⟩, _, _, _, rfl, ⟨x, rfl, hx, rfl⟩, _, _, _, rfl, ⟨y, rfl, hy, rfl⟩, rfl, rfl⟩
theorem m2 {k : Int} {b : Bool} {W : Str} (h : fieldN W = 0) {ws : List Str} {a : Cmd} : goM ⟨k, 0, 0, 0, b⟩ [W, wWho, wWhom, wAmount] ws = some a ↔ ∃ x y z, okN x ∧ okN y ∧ okN z ∧ ws = [W, itoa x, itoa y, itoa z] ∧ a = ⟨k, x, y, z, b⟩ := by
  simp only [goM_cons, goM_nil, stepM_w h, stepM_n f_who, stepM_n f_whom, stepM_n f_am]
  constructor
  · rintro ⟨w, r, c, rfl, ⟨rfl, rfl⟩, w1, r1, c1, rfl, ⟨x, rfl, hx, rfl⟩, w2, r2, c2, rfl, ⟨y, rfl, hy, rfl⟩, w3, r3, c3, rfl, ⟨z, rfl, hz, rfl⟩, rfl, rfl⟩
    exact ⟨x, y, z, hx, hy, hz, rfl, rfl⟩
  · rintro ⟨x, y, z, hx, hy, hz, rfl, rfl⟩
    exact ⟨_, _, _, rfl, ⟨rfl, rfl⟩, _, _, _, rfl, ⟨x, rfl, hx, rfl⟩, _, _, _, rfl, ⟨y, rfl, hy, rfl⟩, _, _, _, rfl, ⟨z, rfl, hz, rfl⟩, rfl, rfl⟩
theorem m3 {k m : Int} {b : Bool} {W V : Str} (h : fieldN W = 0) (h' : fieldN V = 0) {ws : List Str} {a : Cmd} : goM ⟨k, 0, m, 0, b⟩ [W, V, wWho] ws = some a ↔ ∃ x, okN x ∧ ws = [W, V, itoa x] ∧ a = ⟨k, x, m, 0, b⟩ := by
  simp only [goM_cons, goM_nil, stepM_w h, stepM_w h', stepM_n f_who]
  constructor
  · rintro ⟨w, r, c, rfl, ⟨rfl, rfl⟩, w1, r1, c1, rfl, ⟨rfl, rfl⟩, w2, r2, c2, rfl, ⟨x, rfl, hx, rfl⟩, rfl, rfl⟩
    exact ⟨x, hx, rfl, rfl⟩
  · rintro ⟨x, hx, rfl, rfl⟩
    exact ⟨_, _, _, rfl, ⟨rfl, rfl⟩, _, _, _, rfl, ⟨rfl, rfl⟩, _, _, _, rfl, ⟨x, rfl, hx, rfl⟩, rfl, rfl⟩
theorem m4 {k : Int} {b : Bool} {W : Str} (h : fieldN W = 0) {ws : List Str} {a : Cmd} : goM ⟨k, 0, 0, 0, b⟩ [W, wWho] ws = some a ↔ ∃ x, okN x ∧ ws = [W, itoa x] ∧ a = ⟨k, x, 0, 0, b⟩ := by
  simp only [goM_cons, goM_nil, stepM_w h, stepM_n f_who]
  constructor
  · rintro ⟨w, r, c, rfl, ⟨rfl, rfl⟩, w2, r2, c2, rfl, ⟨x, rfl, hx, rfl⟩, rfl, rfl⟩
    exact ⟨x, hx, rfl, rfl⟩
  · rintro ⟨x, hx, rfl, rfl⟩
    exact ⟨_, _, _, rfl, ⟨rfl, rfl⟩, _, _, _, rfl, ⟨x, rfl, hx, rfl⟩, rfl, rfl⟩
theorem m5 {k : Int} {b : Bool} {W : Str} (h : fieldN W = 0) {ws : List Str} {a : Cmd} : goM ⟨k, 0, 0, 0, b⟩ [W] ws = some a ↔ ws = [W] ∧ a = ⟨k, 0, 0, 0, b⟩ := by
  simp only [goM_cons, goM_nil, stepM_w h]
  constructor
  · rintro ⟨w, r, c, rfl, ⟨rfl, rfl⟩, rfl, rfl⟩
    exact ⟨rfl, rfl⟩
  · rintro ⟨rfl, rfl⟩
    exact ⟨_, _, _, rfl, ⟨rfl, rfl⟩, rfl, rfl⟩
theorem m6 {k : Int} {b : Bool} {W : Str} (h : fieldN W = 0) {ws : List Str} {a : Cmd} : goM ⟨k, 0, 0, 0, b⟩ [W, wAmount] ws = some a ↔ ∃ x, okN x ∧ ws = [W, itoa x] ∧ a = ⟨k, 0, 0, x, b⟩ := by
  simp only [goM_cons, goM_nil, stepM_w h, stepM_n f_am]
  constructor
  · rintro ⟨w, r, c, rfl, ⟨rfl, rfl⟩, w2, r2, c2, rfl, ⟨x, rfl, hx, rfl⟩, rfl, rfl⟩
    exact ⟨x, hx, rfl, rfl⟩
  · rintro ⟨x, hx, rfl, rfl⟩
    exact ⟨_, _, _, rfl, ⟨rfl, rfl⟩, _, _, _, rfl, ⟨x, rfl, hx, rfl⟩, rfl, rfl⟩
theorem mf {f : Form} (hf : f ∈ formL) {ws : List Str} {a : Cmd} : matchF f ws = some a → Lin a ws := by
  intro h
  unfold matchF Form.act at h
  unfold formL at hf
  simp only [List.mem_cons, List.mem_nil_iff, or_false] at hf
  rcases hf with rfl | rfl | rfl | rfl | rfl | rfl | rfl | rfl | rfl
  · obtain ⟨x, y, hx, hy, rfl, rfl⟩ := (m1 (by decide)).1 h; exact .withdraw hx hy
  · obtain ⟨x, y, z, hx, hy, hz, rfl, rfl⟩ := (m2 (by decide)).1 h; exact .pay hx hy hz
  · obtain ⟨x, y, z, hx, hy, hz, rfl, rfl⟩ := (m2 (by decide)).1 h; exact .transfer hx hy hz
  · obtain ⟨x, hx, rfl, rfl⟩ := (m3 (by decide) (by decide)).1 h; exact .merchant hx
  · obtain ⟨x, hx, rfl, rfl⟩ := (m3 (by decide) (by decide)).1 h; exact .holder hx
  · obtain ⟨x, y, z, hx, hy, hz, rfl, rfl⟩ := (m2 (by decide)).1 h; exact .double hx hy hz
  · obtain ⟨x, hx, rfl, rfl⟩ := (m4 (by decide)).1 h; exact .trace hx
  · obtain ⟨rfl, rfl⟩ := (m5 (by decide)).1 h; exact .clear
  · obtain ⟨x, hx, rfl, rfl⟩ := (m6 (by decide)).1 h; exact .tick hx
theorem mf_lin {a : Cmd} {ws : List Str} (h : Lin a ws) : ∃ f ∈ formL, matchF f ws = some a := by
  cases h with
  | withdraw hx hy => exact ⟨_, .head _, (m1 (by decide)).2 ⟨_, _, hx, hy, rfl, rfl⟩⟩
  | pay hx hy hz => exact ⟨_, .tail _ (.head _), (m2 (by decide)).2 ⟨_, _, _, hx, hy, hz, rfl, rfl⟩⟩
  | transfer hx hy hz => exact ⟨_, .tail _ (.tail _ (.head _)), (m2 (by decide)).2 ⟨_, _, _, hx, hy, hz, rfl, rfl⟩⟩
  | merchant hx => exact ⟨_, .tail _ (.tail _ (.tail _ (.head _))), (m3 (by decide) (by decide)).2 ⟨_, hx, rfl, rfl⟩⟩
  | holder hx => exact ⟨_, .tail _ (.tail _ (.tail _ (.tail _ (.head _)))), (m3 (by decide) (by decide)).2 ⟨_, hx, rfl, rfl⟩⟩
  | double hx hy hz => exact ⟨_, .tail _ (.tail _ (.tail _ (.tail _ (.tail _ (.head _))))), (m2 (by decide)).2 ⟨_, _, _, hx, hy, hz, rfl, rfl⟩⟩
  | trace hx => exact ⟨_, .tail _ (.tail _ (.tail _ (.tail _ (.tail _ (.tail _ (.head _)))))), (m4 (by decide)).2 ⟨_, hx, rfl, rfl⟩⟩
  | clear => exact ⟨_, .tail _ (.tail _ (.tail _ (.tail _ (.tail _ (.tail _ (.tail _ (.head _))))))), (m5 (by decide)).2 ⟨rfl, rfl⟩⟩
  | tick hx => exact ⟨_, .tail _ (.tail _ (.tail _ (.tail _ (.tail _ (.tail _ (.tail _ (.tail _ (.head _)))))))), (m6 (by decide)).2 ⟨_, hx, rfl, rfl⟩⟩
theorem itoa_eq {n m : Int} (hn : okN n) (hm : okN m) (h : itoa n = itoa m) : n = m := itoa_inj hn hm h
theorem lin_inj {a b : Cmd} {ws : List Str} (h : Lin a ws) (k0 : Lin b ws) : a = b := by
  have key : ∀ us vs, Lin a us → Lin b vs → us = vs → a = b := by
    clear h k0
    intro us vs h k e
    cases h <;> cases k <;> first | (exact absurd (List.cons.inj e).1 (by decide)) | (exact absurd (List.cons.inj (List.cons.inj e).2).1 (by decide)) | skip
    all_goals simp only [List.cons.injEq, true_and, and_true] at e
    · rename_i hx hy _ _ hx' hy'; rw [itoa_eq hx hx' e.1, itoa_eq hy hy' e.2]
    · rename_i hx hy hz _ _ _ hx' hy' hz'; rw [itoa_eq hx hx' e.1, itoa_eq hy hy' e.2.1, itoa_eq hz hz' e.2.2]
    · rename_i hx hy hz _ _ _ hx' hy' hz'; rw [itoa_eq hx hx' e.1, itoa_eq hy hy' e.2.1, itoa_eq hz hz' e.2.2]
    · rename_i hx _ hx'; rw [itoa_eq hx hx' e]
    · rename_i hx _ hx'; rw [itoa_eq hx hx' e]
    · rename_i hx hy hz _ _ _ hx' hy' hz'; rw [itoa_eq hx hx' e.1, itoa_eq hy hy' e.2.1, itoa_eq hz hz' e.2.2]
    · rename_i hx _ hx'; rw [itoa_eq hx hx' e]
    · rfl
    · rename_i hx _ hx'; rw [itoa_eq hx hx' e]
  exact key ws ws h k0 rfl
theorem lin_fun {a : Cmd} {ws vs : List Str} (h : Lin a ws) (k : Lin a vs) : ws = vs := by
  cases h <;> cases k <;> rfl
theorem readF_iff {a : Cmd} {ws : List Str} : readF ws = some a ↔ Lin a ws := by
  constructor
  · intro h
    obtain ⟨f, hf, h⟩ := List.exists_of_findSome?_eq_some h
    exact mf hf h
  · intro h
    obtain ⟨f, hf, hm⟩ := mf_lin h
    cases hr : readF ws with
    | none => rw [readF, List.findSome?_eq_none_iff] at hr; rw [hr f hf] at hm; cases hm
    | some b =>
      obtain ⟨g, hg, hb⟩ := List.exists_of_findSome?_eq_some hr
      rw [lin_inj h (mf hg hb)]

theorem index_cons (c b : UInt8) (l : Str) : index (b :: l) [c] = if b = c then 0 else if index l [c] = -1 then -1 else index l [c] + 1 := by
  by_cases h : b = c
  · subst h
    rw [if_pos rfl]
    exact index_first (i := 0) (Nat.zero_le _) (by simp [occAt]) (fun j hj => absurd hj (Nat.not_lt_zero j))
  · rw [if_neg h]
    have e0 : occAt (b :: l) [c] 0 = false := by
      show (c == b && true) = false
      rw [Bool.and_true]; exact beq_false_of_ne (Ne.symm h)
    rcases index_spec l [c] with ⟨h1, h2⟩ | ⟨i, h1, h2, h3, h4⟩
    · rw [if_pos h1]
      refine index_none fun j hj => ?_
      cases j with
      | zero => exact e0
      | succ j => exact h2 j (by simpa using hj)
    · rw [if_neg (by omega), h1]
      have := index_first (s := b :: l) (sub := [c]) (i := i + 1) (by simpa using h2) h3 (fun j hj => by
        cases j with
        | zero => exact e0
        | succ j => exact h4 j (by omega))
      rw [this]; omega
theorem index_nil (c : UInt8) : index [] [c] = -1 := by
  refine index_none fun j hj => ?_
  obtain rfl : j = 0 := Nat.le_zero.1 hj
  rfl
def spl (c : UInt8) : Str → List Str
  | [] => [[]]
  | b :: l => if b = c then [] :: spl c l else match spl c l with
    | [] => [[b]]
    | p :: r => (b :: p) :: r
theorem spl_ne (c : UInt8) (l : Str) : spl c l ≠ [] := by
  cases l with
  | nil => simp [spl]
  | cons b l => rw [spl]; split; (· simp); split <;> simp
def consH (b : UInt8) : List Str → List Str
  | [] => [[b]]
  | p :: r => (b :: p) :: r
theorem spl_cons_ne {c b : UInt8} (l : Str) (h : b ≠ c) : spl c (b :: l) = consH b (spl c l) := by
  rw [spl, if_neg h]; cases spl c l <;> rfl
theorem spl_cons_eq (c : UInt8) (l : Str) : spl c (c :: l) = [] :: spl c l := by rw [spl, if_pos rfl]
theorem splitK_cons_ne (c b : UInt8) (h : b ≠ c) : ∀ (k : Nat) (l : Str), splitK [c] 0 k (b :: l) = consH b (splitK [c] 0 k l)
  | 0, l => rfl
  | k + 1, l => by
    unfold splitK
    rw [index_cons, if_neg h]
    by_cases hm : index l [c] = -1
    · rw [if_pos hm, if_pos (by rfl), if_pos (beq_iff_eq.2 hm)]; rfl
    · have := index_ge l [c]
      rw [if_neg hm, if_neg (by simp; omega), if_neg (by simpa using hm)]
      have e : (index l [c] + 1).toNat = (index l [c]).toNat + 1 := by omega
      rw [e]; rfl
theorem splitK_spl (c : UInt8) : ∀ (s : Str), splitK [c] 0 (count s [c]) s = spl c s
  | [] => by rw [show count [] [c] = 0 from count_miss (index_nil c)]; rfl
  | b :: l => by
    by_cases h : b = c
    · subst h
      rw [count_cons_eq, Nat.add_comm, spl_cons_eq]
      unfold splitK
      rw [index_cons, if_pos rfl, if_neg (by decide)]
      show [] :: splitK [b] 0 (count l [b]) l = _
      rw [splitK_spl b l]
    · rw [count_cons_ne b c l h, splitK_cons_ne c b h, splitK_spl c l, spl_cons_ne l h]
theorem splitB_spl (c : UInt8) (s : ByteArray) : (splitB ⟨#[c]⟩ 0 (countB s ⟨#[c]⟩) s).map (·.data.toList) = spl c s.data.toList := by
  rw [splitB_data]; exact splitK_spl c _
def wordsGo (now : Str) : Str → List Str
  | [] => if now = [] then [] else [now]
  | b :: l => if b = 35 then (if now = [] then [] else [now]) else if b ≠ 32 ∧ b ≠ 9 then wordsGo (now ++ [b]) l else if now = [] then wordsGo [] l else now :: wordsGo [] l
def wordsR (s : Str) : List Str := wordsGo [] s
def wordsC (s : Str) : List Str := (spl 32 ((s.takeWhile (· != 35)).map fun b => if b = 9 then 32 else b)).filter (· != [])
theorem words_go : ∀ (s now : Str), (∀ b ∈ now, b ≠ 32) → wordsGo now s = ((match spl 32 ((s.takeWhile (· != 35)).map fun b => if b = 9 then 32 else b) with | [] => [now] | p :: r => (now ++ p) :: r)).filter (· != [])
  | [], now, hn => by
    simp only [wordsGo, List.takeWhile_nil, List.map_nil, spl, List.append_nil]
    by_cases h : now = [] <;> simp [h]
  | b :: l, now, hn => by
    rw [wordsGo]
    by_cases h : b = 35
    · subst h
      rw [if_pos rfl, List.takeWhile_cons_of_neg (by decide)]
      simp only [List.map_nil, spl, List.append_nil]
      by_cases h : now = [] <;> simp [h]
    · rw [if_neg h, List.takeWhile_cons_of_pos (by simpa using h), List.map_cons]
      by_cases h2 : b ≠ 32 ∧ b ≠ 9
      · rw [if_pos h2, if_neg h2.2, spl_cons_ne _ h2.1, words_go l (now ++ [b]) (fun x hx => by rcases List.mem_append.1 hx with h | h; (· exact hn x h); (· obtain rfl := List.mem_singleton.1 h; exact h2.1))]
        cases hs : spl 32 ((l.takeWhile (· != 35)).map fun b => if b = 9 then 32 else b) with
        | nil => exact absurd hs (spl_ne _ _)
        | cons p r => simp [consH]
      · rw [if_neg h2, show (if b = 9 then (32 : UInt8) else b) = 32 by by_cases h9 : b = 9; (· rw [if_pos h9]); (· rw [if_neg h9]; exact Classical.byContradiction fun k => h2 ⟨k, h9⟩), spl_cons_eq]
        have ih := words_go l [] (fun b hb => by cases hb)
        cases hs : spl 32 ((l.takeWhile (· != 35)).map fun b => if b = 9 then 32 else b) with
        | nil => exact absurd hs (spl_ne _ _)
        | cons p r =>
          rw [hs] at ih
          simp only [List.nil_append] at ih
          simp only [List.append_nil]
          by_cases hn : now = []
          · rw [if_pos hn, hn, ih]; rfl
          · rw [if_neg hn, ih]
            show _ = List.filter _ (now :: p :: r)
            rw [List.filter_cons_of_pos (a := now) (by simpa using hn)]
theorem words_eq (s : Str) : wordsR s = wordsC s := by
  unfold wordsR wordsC
  rw [words_go s [] (fun b hb => by cases hb)]
  cases hs : spl 32 ((s.takeWhile (· != 35)).map fun b => if b = 9 then 32 else b) with
  | nil => exact absurd hs (spl_ne _ _)
  | cons p r => rfl
def joinS (ws : List Str) : Str := join ws [32]
theorem joinS_cons (w v : Str) (ws : List Str) : joinS (w :: v :: ws) = w ++ 32 :: joinS (v :: ws) := by
  unfold joinS; rw [join_cons, join_cons]; simp [joinTail]
theorem spl_word {w : Str} (h : ∀ b ∈ w, b ≠ 32) : spl 32 w = [w] := by
  induction w with
  | nil => rfl
  | cons b w ih => rw [spl_cons_ne _ (h b (List.mem_cons_self ..)), ih fun x hx => h x (List.mem_cons_of_mem _ hx)]; rfl
theorem spl_app {w l : Str} (h : ∀ b ∈ w, b ≠ 32) : spl 32 (w ++ 32 :: l) = w :: spl 32 l := by
  induction w with
  | nil => exact spl_cons_eq 32 l
  | cons b w ih => rw [List.cons_append, spl_cons_ne _ (h b (List.mem_cons_self ..)), ih fun x hx => h x (List.mem_cons_of_mem _ hx)]; rfl
theorem spl_joinS : ∀ {ws : List Str}, ws ≠ [] → (∀ w ∈ ws, ∀ b ∈ w, b ≠ 32) → spl 32 (joinS ws) = ws
  | [], h, _ => absurd rfl h
  | [w], _, h => by rw [show joinS [w] = w from join_one w [32]]; exact spl_word (h w (List.mem_cons_self ..))
  | w :: v :: ws, _, h => by rw [joinS_cons, spl_app (h w (List.mem_cons_self ..)), spl_joinS (List.cons_ne_nil _ _) fun x hx => h x (List.mem_cons_of_mem _ hx)]
theorem joinS_spl : ∀ (s : Str), joinS (spl 32 s) = s
  | [] => rfl
  | b :: l => by
    have ih := joinS_spl l
    by_cases h : b = 32
    · subst h
      rw [spl_cons_eq]
      cases hs : spl 32 l with
      | nil => exact absurd hs (spl_ne _ _)
      | cons p r => rw [hs] at ih; rw [joinS_cons, ih]; rfl
    · rw [spl_cons_ne l h]
      cases hs : spl 32 l with
      | nil => exact absurd hs (spl_ne _ _)
      | cons p r =>
        rw [hs] at ih
        cases r with
        | nil => rw [show joinS [p] = p from join_one p [32]] at ih; show joinS [b :: p] = _; rw [show joinS [b :: p] = b :: p from join_one _ [32], ih]
        | cons q r => show joinS ((b :: p) :: q :: r) = _; rw [joinS_cons] at ih ⊢; rw [List.cons_append, ih]
def okB (b : UInt8) : Prop := b ≠ 32 ∧ b ≠ 9 ∧ b ≠ 35 ∧ b ≠ 10
theorem itoa_ok {n : Int} (h : okN n) : ∀ b ∈ itoa n, okB b := fun b hb => by
  have := itoa_byte h.1 b hb
  refine ⟨?_, ?_, ?_, ?_⟩ <;> rintro rfl <;> revert this <;> decide
theorem lin_ok {a : Cmd} {ws : List Str} (h : Lin a ws) : ws ≠ [] ∧ ∀ w ∈ ws, w ≠ [] ∧ ∀ b ∈ w, okB b := by
  have key : ∀ w : Str, (w != [] && w.all fun b => b != 32 && b != 9 && b != 35 && b != 10) = true → w ≠ [] ∧ ∀ b ∈ w, okB b := fun w hw => by
    rw [Bool.and_eq_true] at hw
    refine ⟨by simpa using hw.1, fun b hb => ?_⟩
    have := List.all_eq_true.1 hw.2 b hb
    simp only [Bool.and_eq_true, bne_iff_ne, ne_eq] at this
    exact ⟨this.1.1.1, this.1.1.2, this.1.2, this.2⟩
  have num : ∀ {n : Int}, okN n → itoa n ≠ [] ∧ ∀ b ∈ itoa n, okB b := fun h => ⟨itoa_ne _, itoa_ok h⟩
  cases h <;> refine ⟨List.cons_ne_nil _ _, fun w hw => ?_⟩ <;> simp only [List.mem_cons, List.mem_nil_iff, or_false] at hw
  · rcases hw with rfl | rfl | rfl; (· exact key _ (by decide)); (· exact num ‹_›); (· exact num ‹_›)
  · rcases hw with rfl | rfl | rfl | rfl; (· exact key _ (by decide)); (· exact num ‹_›); (· exact num ‹_›); (· exact num ‹_›)
  · rcases hw with rfl | rfl | rfl | rfl; (· exact key _ (by decide)); (· exact num ‹_›); (· exact num ‹_›); (· exact num ‹_›)
  · rcases hw with rfl | rfl | rfl; (· exact key _ (by decide)); (· exact key _ (by decide)); (· exact num ‹_›)
  · rcases hw with rfl | rfl | rfl; (· exact key _ (by decide)); (· exact key _ (by decide)); (· exact num ‹_›)
  · rcases hw with rfl | rfl | rfl | rfl; (· exact key _ (by decide)); (· exact num ‹_›); (· exact num ‹_›); (· exact num ‹_›)
  · rcases hw with rfl | rfl; (· exact key _ (by decide)); (· exact num ‹_›)
  · subst hw; exact key _ (by decide)
  · rcases hw with rfl | rfl; (· exact key _ (by decide)); (· exact num ‹_›)

def dgB (b : UInt8) : Bool := decide (48 ≤ b.toNat ∧ b.toNat ≤ 57)
def decV (l : Str) : Nat := l.foldl (fun n b => 10 * n + (b.toNat - 48)) 0
theorem decV_snoc (l : Str) (c : UInt8) : decV (l ++ [c]) = 10 * decV l + (c.toNat - 48) := by simp [decV]
theorem decV_dec (u : Nat) : decV (decDigits u) = u := by
  induction u using Nat.strongRecOn with
  | ind u ih =>
    rw [decDigits]
    split
    · rename_i h
      show 10 * 0 + ((UInt8.ofNat (48 + u)).toNat - 48) = u
      rw [ofNat_dig h]; omega
    · rename_i h
      rw [decV_snoc, ih (u / 10) (by omega), ofNat_dig (by omega)]
      omega
theorem dec_head {u : Nat} (h : 1 ≤ u) : ∀ {b : UInt8} {r : Str}, decDigits u = b :: r → b ≠ 48 := by
  induction u using Nat.strongRecOn with
  | ind u ih =>
    intro b r e
    rw [decDigits] at e
    split at e
    · rename_i h1
      obtain ⟨rfl, _⟩ := List.cons.inj e
      intro k
      have := congrArg UInt8.toNat k
      rw [ofNat_dig h1] at this
      simp at this
      omega
    · rename_i h1
      cases hd : decDigits (u / 10) with
      | nil => exact absurd hd (dec_ne _)
      | cons c t =>
        rw [hd] at e
        obtain ⟨rfl, _⟩ := List.cons.inj e
        exact ih (u / 10) (by omega) (by omega) hd
theorem dec_of : ∀ (n : Nat) (l : Str), l.length = n + 1 → (∀ b ∈ l, dgB b = true) → (l.head? ≠ some 48 ∨ n = 0) → decDigits (decV l) = l
  | 0, l, hl, hd, _ => by
    obtain ⟨c, rfl⟩ := List.length_eq_one_iff.1 hl
    have := hd c (List.mem_cons_self ..)
    unfold dgB at this
    rw [decide_eq_true_eq] at this
    show decDigits (10 * 0 + (c.toNat - 48)) = _
    rw [decDigits_one (by omega)]
    congr 1
    apply UInt8.toNat_inj.1
    rw [ofNat_dig (by omega)]; omega
  | n + 1, l, hl, hd, hh => by
    have hne : l ≠ [] := fun e => by rw [e] at hl; cases hl
    obtain ⟨i, c, rfl⟩ : ∃ i c, l = i ++ [c] := ⟨l.dropLast, l.getLast hne, (List.dropLast_concat_getLast hne).symm⟩
    have hi : i.length = n + 1 := by simpa using hl
    have hc := hd c (by simp)
    unfold dgB at hc
    rw [decide_eq_true_eq] at hc
    have h48 : i.head? ≠ some 48 := by
      rcases hh with h | h
      · cases i with
        | nil => cases hi
        | cons a t => simpa using h
      · omega
    have ih := dec_of n i hi (fun b hb => hd b (by simp [hb])) (.inl h48)
    have h1 : 1 ≤ decV i := by
      refine Nat.pos_of_ne_zero fun e => ?_
      rw [e, decDigits_one (by omega)] at ih
      rw [← ih] at h48
      exact h48 rfl
    rw [decV_snoc, decDigits, dif_neg (by omega)]
    have e1 : (10 * decV i + (c.toNat - 48)) / 10 = decV i := by omega
    have e2 : (10 * decV i + (c.toNat - 48)) % 10 = c.toNat - 48 := by omega
    rw [e1, e2, ih]
    congr 2
    apply UInt8.toNat_inj.1
    rw [ofNat_dig (by omega)]; omega
def numF1 (s : Str) : Bool := !(decide (s.length = 0) || decide (s.length > 13) || (s.head? == some 48 && decide (s.length > 1))) && s.all dgB
def numOk (s : Str) : Bool := numF1 s && decide (decV s ≤ 1099511627776)
theorem nd_le {u : Nat} (h : u ≤ 1099511627776) : nDigits u ≤ 13 := by
  by_cases k : nDigits u ≤ 13
  · exact k
  · exfalso
    have e : ∀ (j v : Nat), j < nDigits v → v ≥ 10 ^ j ∨ j = 0 := by
      intro j
      induction j with
      | zero => intro v _; exact .inr rfl
      | succ j ih =>
        intro v hv
        by_cases h10 : v < 10
        · rw [nDigits_small h10] at hv; omega
        · rw [nDigits_big h10] at hv
          refine .inl ?_
          rw [Nat.pow_succ]
          rcases ih (v / 10) (by omega) with h | rfl
          · omega
          · omega
    rcases e 13 u (by omega) with h' | h'
    · have : (10 : Nat) ^ 13 = 10000000000000 := by decide
      omega
    · omega
theorem num_eq (s : Str) : numC s = if numOk s then some (decV s : Int) else none := by
  by_cases h : numOk s = true
  · rw [if_pos h]
    unfold numOk numF1 at h
    simp only [Bool.and_eq_true, Bool.not_eq_true', Bool.or_eq_false_iff, decide_eq_false_iff_not, decide_eq_true_eq] at h
    obtain ⟨⟨⟨⟨h1, h2⟩, h3⟩, h4⟩, h5⟩ := h
    have h4' : ∀ b ∈ s, dgB b = true := List.all_eq_true.1 h4
    obtain ⟨n, hn⟩ : ∃ n, s.length = n + 1 := ⟨s.length - 1, by omega⟩
    have e := dec_of n s hn h4' (by
      by_cases h0 : n = 0
      · exact .inr h0
      · refine .inl fun k => ?_
        rw [k, decide_eq_true (by omega : s.length > 1)] at h3
        simp at h3)
    exact numC_iff.2 ⟨by rw [itoa_nonneg, e], by omega, by omega⟩
  · rw [if_neg h]
    cases hc : numC s with
    | none => rfl
    | some n =>
      exfalso
      obtain ⟨rfl, h1, h2⟩ := numC_iff.1 hc
      obtain ⟨u, rfl⟩ := Int.eq_ofNat_of_zero_le h1
      apply h
      unfold numOk numF1
      rw [itoa_nonneg, decV_dec, decide_eq_true (by omega : u ≤ 1099511627776)]
      have hl : (decDigits u).length = nDigits u := decDigits_length u
      have hp := nDigits_pos u
      have hm := nd_le (u := u) (by omega)
      rw [hl, decide_eq_false (by omega : ¬ nDigits u = 0), decide_eq_false (by omega : ¬ nDigits u > 13)]
      have ha : (decDigits u).all dgB = true := List.all_eq_true.2 fun b hb => by
        unfold dgB; rw [decide_eq_true_eq]; exact dec_digit b hb
      rw [ha]
      have : ((decDigits u).head? == some 48 && decide (nDigits u > 1)) = false := by
        by_cases h10 : u < 10
        · rw [nDigits_small h10]; simp
        · cases hd : decDigits u with
          | nil => exact absurd hd (dec_ne _)
          | cons c t =>
            have := dec_head (by omega) hd
            simp [this]
      rw [this]; rfl
def kindW (w : Str) : Nat := if w = wWithdraw then 1 else if w = wPay then 2 else if w = wTransfer then 3 else if w = wDeposit then 4 else if w = wDouble then 5 else if w = wTrace then 6 else if w = wClear then 7 else if w = wTick then 8 else 0
def cntK : Nat → Nat
  | 1 => 2
  | 2 | 3 | 5 => 3
  | 4 | 6 | 8 => 1
  | _ => 0
def buildA (k : Nat) (m : Int) (F : Nat → Int) : Cmd :=
  if k = 1 then ⟨1, F 0, m, F 1, true⟩ else if k = 2 then ⟨2, F 0, F 1, F 2, true⟩ else if k = 3 then ⟨3, F 0, F 1, F 2, true⟩ else if k = 4 then ⟨4, F 0, m, 0, true⟩ else if k = 5 then ⟨5, F 0, F 1, F 2, false⟩
  else if k = 6 then ⟨6, F 0, m, 0, true⟩ else if k = 7 then ⟨7, 0, m, 0, true⟩ else ⟨8, 0, m, F 0, true⟩
def finR (k : Nat) (m : Int) (r : List Str) : Option Cmd := if r.length = cntK k ∧ r.all numOk then some (buildA k m fun i => (decV (r.getD i []) : Int)) else none
def depR : List Str → Option Cmd
  | [] => none
  | v :: r => if v = wMerchant then finR 4 0 r else if v = wHolder then finR 4 1 r else none
def actR : List Str → Option Cmd
  | [] => none
  | w :: r => if kindW w = 0 then none else if kindW w = 4 then depR r else finR (kindW w) 0 r
theorem ok_num {w : Str} (h : numOk w = true) : w = itoa (decV w : Int) ∧ okN (decV w : Int) := by
  have := num_eq w
  rw [if_pos h] at this
  exact numC_iff.1 this
theorem num_ok {n : Int} (h : okN n) : numOk (itoa n) = true ∧ (decV (itoa n) : Int) = n := by
  have k := num_eq (itoa n)
  rw [numC_iff.2 ⟨rfl, h⟩] at k
  split at k
  · rename_i h1; exact ⟨h1, (Option.some.inj k).symm⟩
  · cases k
theorem len1 {α : Type} {l : List α} (h : l.length = 1) : ∃ a, l = [a] := List.length_eq_one_iff.1 h
theorem len2 {α : Type} {l : List α} (h : l.length = 2) : ∃ a b, l = [a, b] := by
  match l, h with | [a, b], _ => exact ⟨a, b, rfl⟩
theorem len3 {α : Type} {l : List α} (h : l.length = 3) : ∃ a b c, l = [a, b, c] := by
  match l, h with | [a, b, c], _ => exact ⟨a, b, c, rfl⟩
theorem finR_iff {k : Nat} {m : Int} {r : List Str} {a : Cmd} : finR k m r = some a ↔ (r.length = cntK k ∧ r.all numOk = true) ∧ buildA k m (fun i => (decV (r.getD i []) : Int)) = a := by
  unfold finR; split
  · rename_i h
    exact ⟨fun e => ⟨h, Option.some.inj e⟩, fun e => congrArg some e.2⟩
  · rename_i h
    exact ⟨(fun e => by cases e), fun e => absurd e.1 h⟩
theorem kindW_cases (w : Str) : kindW w = 0 ∨ (w = wWithdraw ∧ kindW w = 1) ∨ (w = wPay ∧ kindW w = 2) ∨ (w = wTransfer ∧ kindW w = 3) ∨ (w = wDeposit ∧ kindW w = 4) ∨ (w = wDouble ∧ kindW w = 5) ∨ (w = wTrace ∧ kindW w = 6) ∨ (w = wClear ∧ kindW w = 7) ∨ (w = wTick ∧ kindW w = 8) := by
  unfold kindW
  repeat' split
  all_goals simp_all
theorem actR_lin {ws : List Str} {a : Cmd} : actR ws = some a ↔ Lin a ws := by
  constructor
  · intro h
    cases ws with
    | nil => cases h
    | cons w r =>
      rw [actR] at h
      rcases kindW_cases w with k | ⟨rfl, k⟩ | ⟨rfl, k⟩ | ⟨rfl, k⟩ | ⟨rfl, k⟩ | ⟨rfl, k⟩ | ⟨rfl, k⟩ | ⟨rfl, k⟩ | ⟨rfl, k⟩ <;> rw [k] at h
      · cases h
      · rw [if_neg (by decide), if_neg (by decide), finR_iff] at h
        obtain ⟨⟨hl, hn⟩, rfl⟩ := h
        obtain ⟨x, y, rfl⟩ := len2 hl
        simp only [List.all_cons, List.all_nil, Bool.and_true, Bool.and_eq_true] at hn
        have h1 := ok_num hn.1
        have h2 := ok_num hn.2
        rw [h1.1, h2.1]
        have := Lin.withdraw h1.2 h2.2
        rw [← h1.1, ← h2.1] at this ⊢
        exact this
      · rw [if_neg (by decide), if_neg (by decide), finR_iff] at h
        obtain ⟨⟨hl, hn⟩, rfl⟩ := h
        obtain ⟨x, y, z, rfl⟩ := len3 hl
        simp only [List.all_cons, List.all_nil, Bool.and_true, Bool.and_eq_true] at hn
        have h1 := ok_num hn.1
        have h2 := ok_num hn.2.1
        have h3 := ok_num hn.2.2
        have := Lin.pay h1.2 h2.2 h3.2
        rw [← h1.1, ← h2.1, ← h3.1] at this
        exact this
      · rw [if_neg (by decide), if_neg (by decide), finR_iff] at h
        obtain ⟨⟨hl, hn⟩, rfl⟩ := h
        obtain ⟨x, y, z, rfl⟩ := len3 hl
        simp only [List.all_cons, List.all_nil, Bool.and_true, Bool.and_eq_true] at hn
        have h1 := ok_num hn.1
        have h2 := ok_num hn.2.1
        have h3 := ok_num hn.2.2
        have := Lin.transfer h1.2 h2.2 h3.2
        rw [← h1.1, ← h2.1, ← h3.1] at this
        exact this
      · rw [if_neg (by decide), if_pos rfl] at h
        cases r with
        | nil => cases h
        | cons v r =>
          rw [depR] at h
          split at h
          · rename_i e; subst e
            rw [finR_iff] at h
            obtain ⟨⟨hl, hn⟩, rfl⟩ := h
            obtain ⟨x, rfl⟩ := len1 hl
            simp only [List.all_cons, List.all_nil, Bool.and_true] at hn
            have h1 := ok_num hn
            have := Lin.merchant h1.2
            rw [← h1.1] at this
            exact this
          · split at h
            · rename_i e; subst e
              rw [finR_iff] at h
              obtain ⟨⟨hl, hn⟩, rfl⟩ := h
              obtain ⟨x, rfl⟩ := len1 hl
              simp only [List.all_cons, List.all_nil, Bool.and_true] at hn
              have h1 := ok_num hn
              have := Lin.holder h1.2
              rw [← h1.1] at this
              exact this
            · cases h
      · rw [if_neg (by decide), if_neg (by decide), finR_iff] at h
        obtain ⟨⟨hl, hn⟩, rfl⟩ := h
        obtain ⟨x, y, z, rfl⟩ := len3 hl
        simp only [List.all_cons, List.all_nil, Bool.and_true, Bool.and_eq_true] at hn
        have h1 := ok_num hn.1
        have h2 := ok_num hn.2.1
        have h3 := ok_num hn.2.2
        have := Lin.double h1.2 h2.2 h3.2
        rw [← h1.1, ← h2.1, ← h3.1] at this
        exact this
      · rw [if_neg (by decide), if_neg (by decide), finR_iff] at h
        obtain ⟨⟨hl, hn⟩, rfl⟩ := h
        obtain ⟨x, rfl⟩ := len1 hl
        simp only [List.all_cons, List.all_nil, Bool.and_true] at hn
        have h1 := ok_num hn
        have := Lin.trace h1.2
        rw [← h1.1] at this
        exact this
      · rw [if_neg (by decide), if_neg (by decide), finR_iff] at h
        obtain ⟨⟨hl, hn⟩, rfl⟩ := h
        obtain rfl := List.length_eq_zero_iff.1 hl
        exact .clear
      · rw [if_neg (by decide), if_neg (by decide), finR_iff] at h
        obtain ⟨⟨hl, hn⟩, rfl⟩ := h
        obtain ⟨x, rfl⟩ := len1 hl
        simp only [List.all_cons, List.all_nil, Bool.and_true] at hn
        have h1 := ok_num hn
        have := Lin.tick h1.2
        rw [← h1.1] at this
        exact this
  · intro h
    cases h with
    | withdraw hx hy =>
      have h1 := num_ok hx; have h2 := num_ok hy
      show finR 1 0 _ = _
      refine finR_iff.2 ⟨⟨rfl, by simp [h1.1, h2.1]⟩, ?_⟩
      show Cmd.mk 1 (decV (itoa _) : Int) 0 (decV (itoa _) : Int) true = _
      rw [h1.2, h2.2]
    | pay hx hy hz =>
      have h1 := num_ok hx; have h2 := num_ok hy; have h3 := num_ok hz
      show finR 2 0 _ = _
      refine finR_iff.2 ⟨⟨rfl, by simp [h1.1, h2.1, h3.1]⟩, ?_⟩
      show Cmd.mk 2 (decV (itoa _) : Int) (decV (itoa _) : Int) (decV (itoa _) : Int) true = _
      rw [h1.2, h2.2, h3.2]
    | transfer hx hy hz =>
      have h1 := num_ok hx; have h2 := num_ok hy; have h3 := num_ok hz
      show finR 3 0 _ = _
      refine finR_iff.2 ⟨⟨rfl, by simp [h1.1, h2.1, h3.1]⟩, ?_⟩
      show Cmd.mk 3 (decV (itoa _) : Int) (decV (itoa _) : Int) (decV (itoa _) : Int) true = _
      rw [h1.2, h2.2, h3.2]
    | merchant hx =>
      have h1 := num_ok hx
      show finR 4 0 _ = _
      refine finR_iff.2 ⟨⟨rfl, by simp [h1.1]⟩, ?_⟩
      show Cmd.mk 4 (decV (itoa _) : Int) 0 0 true = _
      rw [h1.2]
    | holder hx =>
      have h1 := num_ok hx
      show finR 4 1 _ = _
      refine finR_iff.2 ⟨⟨rfl, by simp [h1.1]⟩, ?_⟩
      show Cmd.mk 4 (decV (itoa _) : Int) 1 0 true = _
      rw [h1.2]
    | double hx hy hz =>
      have h1 := num_ok hx; have h2 := num_ok hy; have h3 := num_ok hz
      show finR 5 0 _ = _
      refine finR_iff.2 ⟨⟨rfl, by simp [h1.1, h2.1, h3.1]⟩, ?_⟩
      show Cmd.mk 5 (decV (itoa _) : Int) (decV (itoa _) : Int) (decV (itoa _) : Int) false = _
      rw [h1.2, h2.2, h3.2]
    | trace hx =>
      have h1 := num_ok hx
      show finR 6 0 _ = _
      refine finR_iff.2 ⟨⟨rfl, by simp [h1.1]⟩, ?_⟩
      show Cmd.mk 6 (decV (itoa _) : Int) 0 0 true = _
      rw [h1.2]
    | clear => rfl
    | tick hx =>
      have h1 := num_ok hx
      show finR 8 0 _ = _
      refine finR_iff.2 ⟨⟨rfl, by simp [h1.1]⟩, ?_⟩
      show Cmd.mk 8 0 0 (decV (itoa _) : Int) true = _
      rw [h1.2]
theorem actR_eq (ws : List Str) : actR ws = readF ws := by
  cases h : readF ws with
  | none =>
    cases k : actR ws with
    | none => rfl
    | some a => rw [readF_iff.2 (actR_lin.1 k)] at h; cases h
  | some a => exact actR_lin.2 (readF_iff.1 h)

def wDepM : Str := wDeposit ++ 32 :: wMerchant
def wDepH : Str := wDeposit ++ 32 :: wHolder
def wordK (a : Cmd) : Str := if a.kind = 1 then wWithdraw else if a.kind = 2 then wPay else if a.kind = 3 then wTransfer else if a.kind = 4 then (if a.whom = 0 then wDepM else if a.whom = 1 then wDepH else []) else if a.kind = 5 then wDouble
  else if a.kind = 6 then wTrace else if a.kind = 7 then wClear else if a.kind = 8 then wTick else []
def numsK (a : Cmd) : List Int := if a.kind = 1 then [a.who, a.amount] else if a.kind = 2 ∨ a.kind = 3 ∨ a.kind = 5 then [a.who, a.whom, a.amount] else if a.kind = 4 ∨ a.kind = 6 then [a.who] else if a.kind = 8 then [a.amount] else []
def restB (a : Cmd) : Bool := if a.kind = 1 then a.whom == 0 else if a.kind = 4 then a.amount == 0 else if a.kind = 6 then a.whom == 0 && a.amount == 0 else if a.kind = 7 then a.who == 0 && (a.whom == 0 && a.amount == 0) else if a.kind = 8 then a.who == 0 && a.whom == 0 else true
def wrB (a : Cmd) : Bool := (wordK a != [] && a.honest == (a.kind != 5)) && ((numsK a).all (fun n => decide (0 ≤ n) && decide (n ≤ 1099511627776)) && restB a)
def textR (a : Cmd) : Str := wordK a ++ (numsK a).flatMap fun n => 32 :: itoa n
theorem joinS_one (w : Str) : joinS [w] = w := join_one w [32]
theorem lin_wr {a : Cmd} {ws : List Str} (h : Lin a ws) : wrB a = true ∧ textR a = joinS ws := by
  cases h with
  | withdraw hx hy => exact ⟨by simp [wrB, wordK, numsK, restB, wWithdraw, hx.1, hx.2, hy.1, hy.2], by simp [textR, wordK, numsK, joinS_cons, joinS_one]⟩
  | pay hx hy hz => exact ⟨by simp [wrB, wordK, numsK, restB, wPay, hx.1, hx.2, hy.1, hy.2, hz.1, hz.2], by simp [textR, wordK, numsK, joinS_cons, joinS_one]⟩
  | transfer hx hy hz => exact ⟨by simp [wrB, wordK, numsK, restB, wTransfer, hx.1, hx.2, hy.1, hy.2, hz.1, hz.2], by simp [textR, wordK, numsK, joinS_cons, joinS_one]⟩
  | merchant hx => exact ⟨by simp [wrB, wordK, numsK, restB, wDepM, wDeposit, hx.1, hx.2], by simp [textR, wordK, numsK, joinS_cons, joinS_one, wDepM]⟩
  | holder hx => exact ⟨by simp [wrB, wordK, numsK, restB, wDepH, wDeposit, hx.1, hx.2], by simp [textR, wordK, numsK, joinS_cons, joinS_one, wDepH]⟩
  | double hx hy hz => exact ⟨by simp [wrB, wordK, numsK, restB, wDouble, hx.1, hx.2, hy.1, hy.2, hz.1, hz.2], by simp [textR, wordK, numsK, joinS_cons, joinS_one]⟩
  | trace hx => exact ⟨by simp [wrB, wordK, numsK, restB, wTrace, hx.1, hx.2], by simp [textR, wordK, numsK, joinS_cons, joinS_one]⟩
  | clear => exact ⟨rfl, rfl⟩
  | tick hx => exact ⟨by simp [wrB, wordK, numsK, restB, wTick, hx.1, hx.2], by simp [textR, wordK, numsK, joinS_cons, joinS_one]⟩
theorem wr_lin {a : Cmd} (h : wrB a = true) : ∃ ws, Lin a ws := by
  unfold wrB at h
  rw [Bool.and_eq_true, Bool.and_eq_true, Bool.and_eq_true] at h
  obtain ⟨⟨h1, h2⟩, h3, h4⟩ := h
  have t : ∀ {n : Int}, (decide (0 ≤ n) && decide (n ≤ 1099511627776)) = true → okN n := fun h => by simpa [okN] using h
  obtain ⟨k, x, y, z, b⟩ := a
  unfold wordK at h1
  simp only at h1 h2
  by_cases e1 : k = 1
  · subst e1
    simp [numsK, restB] at h2 h3 h4
    subst h2; subst h4
    exact ⟨_, .withdraw h3.1 h3.2⟩
  by_cases e2 : k = 2
  · subst e2
    simp [numsK] at h2 h3
    subst h2
    exact ⟨_, .pay h3.1 h3.2.1 h3.2.2⟩
  by_cases e3 : k = 3
  · subst e3
    simp [numsK] at h2 h3
    subst h2
    exact ⟨_, .transfer h3.1 h3.2.1 h3.2.2⟩
  by_cases e4 : k = 4
  · subst e4
    simp [numsK, restB] at h2 h3 h4
    subst h2; subst h4
    by_cases y0 : y = 0
    · subst y0; exact ⟨_, .merchant h3⟩
    · by_cases y1 : y = 1
      · subst y1; exact ⟨_, .holder h3⟩
      · simp [y0, y1] at h1
  by_cases e5 : k = 5
  · subst e5
    simp [numsK] at h2 h3
    subst h2
    exact ⟨_, .double h3.1 h3.2.1 h3.2.2⟩
  by_cases e6 : k = 6
  · subst e6
    simp [numsK, restB] at h2 h3 h4
    obtain ⟨rfl, rfl⟩ := h4
    subst h2
    exact ⟨_, .trace h3⟩
  by_cases e7 : k = 7
  · subst e7
    simp [restB] at h2 h4
    obtain ⟨rfl, rfl, rfl⟩ := h4
    subst h2
    exact ⟨_, .clear⟩
  by_cases e8 : k = 8
  · subst e8
    simp [numsK, restB] at h2 h3 h4
    obtain ⟨rfl, rfl⟩ := h4
    subst h2
    exact ⟨_, .tick h3⟩
  simp [e1, e2, e3, e4, e5, e6, e7, e8] at h1
def eqA (a b : Cmd) : Bool := a.kind == b.kind && (a.who == b.who && (a.whom == b.whom && (a.amount == b.amount && a.honest == b.honest)))
theorem eqA_iff {a b : Cmd} : eqA a b = true ↔ a = b := by
  obtain ⟨a1, a2, a3, a4, a5⟩ := a
  obtain ⟨b1, b2, b3, b4, b5⟩ := b
  simp [eqA]
def textF1 (f : Form) (a : Cmd) : Option Str := match matchF f (lineF f a) with
  | some b => if eqA b a then some (joinS (lineF f a)) else none
  | none => none
def textF (a : Cmd) : Option Str := formL.findSome? fun f => textF1 f a
theorem mf_line {a : Cmd} {ws : List Str} (h : Lin a ws) : ∃ f ∈ formL, matchF f ws = some a ∧ lineF f a = ws := by
  cases h with
  | withdraw hx hy => exact ⟨_, .head _, (m1 (by decide)).2 ⟨_, _, hx, hy, rfl, rfl⟩, rfl⟩
  | pay hx hy hz => exact ⟨_, .tail _ (.head _), (m2 (by decide)).2 ⟨_, _, _, hx, hy, hz, rfl, rfl⟩, rfl⟩
  | transfer hx hy hz => exact ⟨_, .tail _ (.tail _ (.head _)), (m2 (by decide)).2 ⟨_, _, _, hx, hy, hz, rfl, rfl⟩, rfl⟩
  | merchant hx => exact ⟨_, .tail _ (.tail _ (.tail _ (.head _))), (m3 (by decide) (by decide)).2 ⟨_, hx, rfl, rfl⟩, rfl⟩
  | holder hx => exact ⟨_, .tail _ (.tail _ (.tail _ (.tail _ (.head _)))), (m3 (by decide) (by decide)).2 ⟨_, hx, rfl, rfl⟩, rfl⟩
  | double hx hy hz => exact ⟨_, .tail _ (.tail _ (.tail _ (.tail _ (.tail _ (.head _))))), (m2 (by decide)).2 ⟨_, _, _, hx, hy, hz, rfl, rfl⟩, rfl⟩
  | trace hx => exact ⟨_, .tail _ (.tail _ (.tail _ (.tail _ (.tail _ (.tail _ (.head _)))))), (m4 (by decide)).2 ⟨_, hx, rfl, rfl⟩, rfl⟩
  | clear => exact ⟨_, .tail _ (.tail _ (.tail _ (.tail _ (.tail _ (.tail _ (.tail _ (.head _))))))), (m5 (by decide)).2 ⟨rfl, rfl⟩, rfl⟩
  | tick hx => exact ⟨_, .tail _ (.tail _ (.tail _ (.tail _ (.tail _ (.tail _ (.tail _ (.tail _ (.head _)))))))), (m6 (by decide)).2 ⟨_, hx, rfl, rfl⟩, rfl⟩
theorem textF1_some {f : Form} (hf : f ∈ formL) {a : Cmd} {s : Str} (h : textF1 f a = some s) : ∃ ws, Lin a ws ∧ s = joinS ws := by
  unfold textF1 at h
  split at h
  · rename_i b hb
    split at h
    · rename_i he
      rw [eqA_iff.1 he] at hb
      exact ⟨_, mf hf hb, (Option.some.inj h).symm⟩
    · cases h
  · cases h
theorem textF_eq (a : Cmd) : textF a = if wrB a = true then some (textR a) else none := by
  by_cases h : wrB a = true
  · rw [if_pos h]
    obtain ⟨ws, hl⟩ := wr_lin h
    obtain ⟨f, hf, h1, h2⟩ := mf_line hl
    have e1 : textF1 f a = some (joinS ws) := by
      unfold textF1; rw [h2, h1]; simp only; rw [if_pos (eqA_iff.2 rfl)]
    cases hr : textF a with
    | none => rw [textF, List.findSome?_eq_none_iff] at hr; rw [hr f hf] at e1; cases e1
    | some t =>
      obtain ⟨g, hg, ht⟩ := List.exists_of_findSome?_eq_some hr
      obtain ⟨vs, k1, rfl⟩ := textF1_some hg ht
      rw [lin_fun k1 hl, (lin_wr hl).2]
  · rw [if_neg h]
    cases hr : textF a with
    | none => rfl
    | some t =>
      obtain ⟨g, hg, ht⟩ := List.exists_of_findSome?_eq_some hr
      obtain ⟨vs, k1, rfl⟩ := textF1_some hg ht
      exact absurd (lin_wr k1).1 h
theorem takeWhile_all {p : UInt8 → Bool} : ∀ {l : Str}, (∀ b ∈ l, p b = true) → l.takeWhile p = l
  | [], _ => rfl
  | b :: l, h => by rw [List.takeWhile_cons_of_pos (h b (List.mem_cons_self ..)), takeWhile_all fun x hx => h x (List.mem_cons_of_mem _ hx)]
theorem map_tab {l : Str} (h : ∀ b ∈ l, b ≠ 9) : (l.map fun b => if b = 9 then 32 else b) = l := by
  conv => rhs; rw [← List.map_id l]
  exact List.map_congr_left fun b hb => if_neg (h b hb)
theorem joinS_byte {p : UInt8 → Prop} (h32 : p 32) : ∀ {ws : List Str}, (∀ w ∈ ws, ∀ b ∈ w, p b) → ∀ b ∈ joinS ws, p b
  | [], _, b, hb => by cases hb
  | [w], h, b, hb => by rw [show joinS [w] = w from join_one w [32]] at hb; exact h w (List.mem_cons_self ..) b hb
  | w :: v :: ws, h, b, hb => by
    rw [joinS_cons] at hb
    rcases List.mem_append.1 hb with hb | hb
    · exact h w (List.mem_cons_self ..) b hb
    · rcases List.mem_cons.1 hb with rfl | hb
      · exact h32
      · exact joinS_byte h32 (fun x hx => h x (List.mem_cons_of_mem _ hx)) b hb
theorem words_join {ws : List Str} (h0 : ws ≠ []) (h : ∀ w ∈ ws, w ≠ [] ∧ ∀ b ∈ w, okB b) : wordsR (joinS ws) = ws := by
  have hb : ∀ b ∈ joinS ws, b ≠ 35 ∧ b ≠ 9 := joinS_byte ⟨by decide, by decide⟩ fun w hw b hb => ⟨((h w hw).2 b hb).2.2.1, ((h w hw).2 b hb).2.1⟩
  rw [words_eq]
  unfold wordsC
  rw [takeWhile_all fun b hb' => by simpa using (hb b hb').1, map_tab fun b hb' => (hb b hb').2, spl_joinS h0 fun w hw b hb => ((h w hw).2 b hb).1]
  exact List.filter_eq_self.2 fun w hw => by simpa using (h w hw).1
theorem parse_eq (s : Str) : readF (spl 32 s) = match readF (wordsR s) with
    | some a => if textR a = s then some a else none
    | none => none := by
  cases h : readF (spl 32 s) with
  | some a =>
    have hl := readF_iff.1 h
    have e : joinS (spl 32 s) = s := joinS_spl s
    have hw : wordsR s = spl 32 s := by
      conv => lhs; rw [← e]
      exact words_join (lin_ok hl).1 (lin_ok hl).2
    rw [hw, h]
    simp only
    rw [if_pos ((lin_wr hl).2.trans e)]
  | none =>
    cases k : readF (wordsR s) with
    | none => rfl
    | some a =>
      simp only
      by_cases ht : textR a = s
      · exfalso
        have hl := readF_iff.1 k
        have e := (lin_wr hl).2
        rw [ht] at e
        have : spl 32 s = wordsR s := by
          conv => lhs; rw [e]
          exact spl_joinS (lin_ok hl).1 fun w hw b hb => (((lin_ok hl).2 w hw).2 b hb).1
        rw [this, k] at h
        cases h
      · rw [if_neg ht]
theorem lin_len {a : Cmd} {ws : List Str} (h : Lin a ws) : (joinS ws).length ≤ 100 := by
  have n : ∀ {x : Int}, okN x → (itoa x).length ≤ 13 := fun {x} h => by
    obtain ⟨u, rfl⟩ := Int.eq_ofNat_of_zero_le h.1
    rw [itoa_nonneg, decDigits_length]
    have := h.2
    exact nd_le (by omega)
  cases h with
  | withdraw hx hy => have := n hx; have := n hy; simp [joinS_cons, joinS_one, wWithdraw]; omega
  | pay hx hy hz => have := n hx; have := n hy; have := n hz; simp [joinS_cons, joinS_one, wPay]; omega
  | transfer hx hy hz => have := n hx; have := n hy; have := n hz; simp [joinS_cons, joinS_one, wTransfer]; omega
  | merchant hx => have := n hx; simp [joinS_cons, joinS_one, wDeposit, wMerchant]; omega
  | holder hx => have := n hx; simp [joinS_cons, joinS_one, wDeposit, wHolder]; omega
  | double hx hy hz => have := n hx; have := n hy; have := n hz; simp [joinS_cons, joinS_one, wDouble]; omega
  | trace hx => have := n hx; simp [joinS_cons, joinS_one, wTrace]; omega
  | clear => simp [joinS_one, wClear]
  | tick hx => have := n hx; simp [joinS_cons, joinS_one, wTick]; omega
end Go.Sp

namespace Go.Sp
open Go Go.Am Go.Lib
abbrev bs (l : Str) : ByteArray := ⟨l.toArray⟩
theorem bs_data (l : Str) : (bs l).data.toList = l := rfl
theorem bs_size (l : Str) : (bs l).size = l.length := rfl
theorem bs_app (a b : Str) : bs a ++ bs b = bs (a ++ b) := by
  apply ByteArray.ext
  rw [ByteArray.data_append]
  simp
theorem bs_ext (l : Str) (a n : Nat) : (bs l).extract a (a + n) = bs ((l.drop a).take n) := by
  apply ByteArray.ext
  apply Array.toList_inj.1
  simp [ByteArray.data_extract]
theorem bs_toList (l : Str) : (bs l).toList = l := ByteArray.toList_mk l
def Cmd.cells (a : Cmd) : List AV := [.int .i64 a.kind, .int .i64 a.who, .int .i64 a.whom, .int .i64 a.amount, .bool a.honest]
end Go.Sp

namespace Go.Sp
open Go Go.Am

theorem wI {n : Int} (h : -9223372036854775808 ≤ n) (h' : n ≤ 9223372036854775807) : IntKind.wrap .i64 n = n := by
  simp only [IntKind.wrap, IntKind.bits, IntKind.signed]
  simp only [Bool.true_and, decide_eq_true_eq, ge_iff_le]
  split <;> omega

def nodeB (d l i : Int) : Bool := decide (0 ≤ d ∧ d ≤ 5 ∧ 0 ≤ l ∧ l ≤ d ∧ 0 ≤ i ∧ i < 2 ^ l.toNat)
def spanA (d l i : Int) : Int := if nodeB d l i then i * 2 ^ (d - l).toNat else 0
def spanZ (d l i : Int) : Int := if nodeB d l i then (i + 1) * 2 ^ (d - l).toNat else 0
def spanE (d l i : Int) : Int := if d < 0 ∨ 5 < d then 1 else if nodeB d l i then 0 else 2
theorem p2 {k : Int} (h0 : 0 ≤ k) (h1 : k ≤ 5) : IntKind.wrap IntKind.i64 (1 * 2 ^ min (Int.toNat k) 64) = 2 ^ k.toNat ∧ min (Int.toNat k) 64 = k.toNat ∧ 1 ≤ (2 : Int) ^ k.toNat ∧ (2 : Int) ^ k.toNat ≤ 32 := by
  rcases (by omega : k = 0 ∨ k = 1 ∨ k = 2 ∨ k = 3 ∨ k = 4 ∨ k = 5) with rfl | rfl | rfl | rfl | rfl | rfl <;> decide

structure Spend where
  bank : Int
  epoch : Int
  denom : Int
  depth : Int
  a : Int
  root : Nat → Int
  z : Int
  sa : Int
  sb : Int
  r : Int
  level : Int
  index : Int
  payee : Nat → Int
  time : Int
  number : Int
  nl : Nat
  lf : Nat → Nat → Int
  pidx : Int
  np : Nat
  pf : Nat → Nat → Int

abbrev lvs (n : Nat) (f : Nat → Nat → Int) : AV := .isl 3 n (fun i j => .int .i64 (f i j))
abbrev hss (n : Nat) (f : Nat → Nat → Int) : AV := .isl 32 n (fun i j => .int .u8 (f i j))

def Spend.cw (s : Spend) (x y : AV) : List AV := [.int .i64 s.bank, .int .i64 s.epoch, .int .i64 s.denom, .int .i64 s.depth, .int .i64 s.a, .int .u8 (s.root 0), .int .u8 (s.root 1), .int .u8 (s.root 2), .int .u8 (s.root 3), .int .u8 (s.root 4), .int .u8 (s.root 5), .int .u8 (s.root 6), .int .u8 (s.root 7), .int .u8 (s.root 8), .int .u8 (s.root 9), .int .u8 (s.root 10), .int .u8 (s.root 11), .int .u8 (s.root 12), .int .u8 (s.root 13), .int .u8 (s.root 14), .int .u8 (s.root 15), .int .u8 (s.root 16), .int .u8 (s.root 17), .int .u8 (s.root 18), .int .u8 (s.root 19), .int .u8 (s.root 20), .int .u8 (s.root 21), .int .u8 (s.root 22), .int .u8 (s.root 23), .int .u8 (s.root 24), .int .u8 (s.root 25), .int .u8 (s.root 26), .int .u8 (s.root 27), .int .u8 (s.root 28), .int .u8 (s.root 29), .int .u8 (s.root 30), .int .u8 (s.root 31), .int .i64 s.z, .int .i64 s.sa, .int .i64 s.sb, .int .i64 s.r, .int .i64 s.level, .int .i64 s.index, .int .u8 (s.payee 0), .int .u8 (s.payee 1), .int .u8 (s.payee 2), .int .u8 (s.payee 3), .int .u8 (s.payee 4), .int .u8 (s.payee 5), .int .u8 (s.payee 6), .int .u8 (s.payee 7), .int .u8 (s.payee 8), .int .u8 (s.payee 9), .int .u8 (s.payee 10), .int .u8 (s.payee 11), .int .u8 (s.payee 12), .int .u8 (s.payee 13), .int .u8 (s.payee 14), .int .u8 (s.payee 15), .int .u8 (s.payee 16), .int .u8 (s.payee 17), .int .u8 (s.payee 18), .int .u8 (s.payee 19), .int .u8 (s.payee 20), .int .u8 (s.payee 21), .int .u8 (s.payee 22), .int .u8 (s.payee 23), .int .u8 (s.payee 24), .int .u8 (s.payee 25), .int .u8 (s.payee 26), .int .u8 (s.payee 27), .int .u8 (s.payee 28), .int .u8 (s.payee 29), .int .u8 (s.payee 30), .int .u8 (s.payee 31), .int .i64 s.time, .int .i64 s.number, x, .int .i64 s.pidx, y]
def Spend.cells (s : Spend) : List AV := s.cw (lvs s.nl s.lf) (hss s.np s.pf)
def Spend.av (s : Spend) : AV := .agg s.cells

def okS (s : Spend) : Bool := !(spanE s.depth s.level s.index != 0 || (s.nl : Int) != IntKind.wrap .i64 (spanZ s.depth s.level s.index - spanA s.depth s.level s.index) || decide (s.time < 0) || decide (s.time > 1099511627776) || decide (s.number < 0) || decide (s.number > 1073741824))

theorem inc_ent {os : List (Option Ob)} {i : Nat} (h : i < 9223372036854775807) : Ent os (.int .i64 (IntKind.wrap .i64 (Nat.cast i + 1))) (.int .i64 (Nat.cast (i + 1))) := Ent.of_eq (by rw [wI (by omega) (by omega)]; simp)

theorem both {a b : Bool} (h : (!(a && b)) = false) : (a && b) = true := by simpa using congrArg not h

def Spend.zero : Spend := ⟨0, 0, 0, 0, 0, fun _ => 0, 0, 0, 0, 0, 0, 0, fun _ => 0, 0, 0, 0, fun _ _ => 0, 0, 0, fun _ _ => 0⟩

def altE (s : Spend) (k b : Int) : Int := if okS s then (if k < 0 ∨ 11 < k ∨ b < 1 ∨ 1000 < b then 2 else if (k = 10 ∧ s.nl = 1) ∨ (k = 11 ∧ s.np = 0) then 7 else 0) else 1
def x1 (n : Int) : Int := IntKind.wrap .u8 (BitVec.toNat (BitVec.ofInt 8 n ^^^ BitVec.ofInt 8 1))
structure AltOk (s : Spend) (k b : Int) : Prop where
  e : altE s k b = 0
  k0 : 0 ≤ k
  k1 : k ≤ 11
  b0 : 0 ≤ b
  nl : 0 < s.nl
  np : k = 11 → 0 < s.np

end Go.Sp

namespace Go.Sp
open Go Go.Am Go.Lib
def numVal (s : Str) : Int := match atoiAll s with | .ok n => n | NumEnd.syntax => 0 | .range => atoiSat s
theorem num_val {s : Str} {n : Int} (h : numC s = some n) : numVal s = n := by
  unfold numC at h
  unfold numVal
  split at h
  · split at h
    · rename_i e _; rw [e]; exact Option.some.inj h
    · cases h
  · cases h
theorem num_some {s : Str} (h : (numC s).isSome = true) : s = itoa (numVal s) ∧ okN (numVal s) := by
  obtain ⟨n, hn⟩ := Option.isSome_iff_exists.1 h
  rw [num_val hn]
  exact numC_iff.1 hn
theorem eqS (a b : Str) : ((bs a).toList == (bs b).toList) = decide (a = b) := by
  rw [bs_toList, bs_toList]
  by_cases h : a = b
  · rw [h]; simp
  · rw [decide_eq_false h]; exact beq_false_of_ne h
theorem eqT {a b : Str} (h : ((bs a).toList == (bs b).toList) = true) : a = b := by rw [eqS] at h; exact of_decide_eq_true h
theorem eqF {a b : Str} (h : ((bs a).toList == (bs b).toList) = false) : a ≠ b := by rw [eqS] at h; exact of_decide_eq_false h
theorem goM_len : ∀ {ps ws : List Str} {a b : Cmd}, goM a ps ws = some b → ws.length = ps.length
  | [], ws, a, b, h => by rw [goM_nil] at h; rw [h.1]
  | p :: ps, ws, a, b, h => by
    obtain ⟨w, r, c, rfl, _, h2⟩ := goM_cons.1 h
    simp [goM_len h2]
theorem goM_at : ∀ {ps ws : List Str} {a b : Cmd}, goM a ps ws = some b → ∀ (j : Nat) (p : Str), ps[j]? = some p → if fieldN p = 0 then ws.getD j [] = p else (numC (ws.getD j [])).isSome = true
  | [], ws, a, b, h, j, p, hp => by simp at hp
  | q :: ps, ws, a, b, h, 0, p, hp => by
    obtain ⟨w, r, c, rfl, h1, _⟩ := goM_cons.1 h
    simp only [List.getElem?_cons_zero, Option.some.injEq] at hp
    subst hp
    show if fieldN q = 0 then w = q else (numC w).isSome = true
    unfold stepM at h1
    split at h1
    · rename_i e
      rw [if_pos e]
      split at h1
      · assumption
      · cases h1
    · rename_i e
      rw [if_neg e]
      obtain ⟨n, hn, _⟩ := Option.map_eq_some_iff.1 h1
      rw [hn]; rfl
  | q :: ps, ws, a, b, h, j + 1, p, hp => by
    obtain ⟨w, r, c, rfl, _, h2⟩ := goM_cons.1 h
    exact goM_at h2 j p (by simpa using hp)
theorem goM_none {a : Cmd} {ps ws : List Str} (h : ∀ b, goM a ps ws ≠ some b) : goM a ps ws = none := by
  cases e : goM a ps ws with
  | none => rfl
  | some b => exact absurd e (h b)
theorem nLen {f : Form} {ws : List Str} (n : Nat) (hn : f.ws.length = n) (h : ¬ (ws.length : Int) = (n : Int)) : matchF f ws = none := goM_none fun b e => h (by have := goM_len e; rw [hn] at this; rw [this])
theorem nWord {f : Form} {ws : List Str} (j : Nat) (p : Str) (hp : f.ws[j]? = some p) (h0 : fieldN p = 0) (h : ((bs (ws.getD j [])).toList == (bs p).toList) = false) : matchF f ws = none := goM_none fun b e => by
  have := goM_at e j p hp
  rw [if_pos h0] at this
  exact eqF h this
theorem nNum {f : Form} {ws : List Str} (j : Nat) (p : Str) (hp : f.ws[j]? = some p) (h0 : fieldN p ≠ 0) (h : (numC (ws.getD j [])).isSome = false) : matchF f ws = none := goM_none fun b e => by
  have := goM_at e j p hp
  rw [if_neg h0, h] at this
  cases this
theorem mO {f : Form} {ws : List Str} (h : matchF f ws = none) : AV.tup [.agg [.int .i64 0, .int .i64 0, .int .i64 0, .int .i64 0, .bool false], .bool false] = .tup [.agg (Cmd.cells ((matchF f ws).getD .zero)), .bool (matchF f ws).isSome] := by rw [h]; rfl
section
variable {k m : Int} {b : Bool} {W V : Str} {ws : List Str}
theorem s1 (h : fieldN W = 0) (hl : (ws.length : Int) = ((3 : Nat) : Int)) (h0 : ((bs (ws.getD 0 [])).toList == (bs W).toList) = true) (h1 : (numC (ws.getD 1 [])).isSome = true) (h2 : (numC (ws.getD 2 [])).isSome = true) :
    goM ⟨k, 0, 0, 0, b⟩ [W, wWho, wAmount] ws = some ⟨k, numVal (ws.getD 1 []), 0, numVal (ws.getD 2 []), b⟩ := by
  obtain ⟨x, y, z, rfl⟩ := len3 (show ws.length = 3 by omega)
  obtain rfl : x = W := eqT h0
  have g1 := num_some (s := y) h1
  have g2 := num_some (s := z) h2
  exact (m1 h).2 ⟨_, _, g1.2, g2.2, by rw [← g1.1, ← g2.1], rfl⟩
theorem s2 (h : fieldN W = 0) (hl : (ws.length : Int) = ((4 : Nat) : Int)) (h0 : ((bs (ws.getD 0 [])).toList == (bs W).toList) = true) (h1 : (numC (ws.getD 1 [])).isSome = true) (h2 : (numC (ws.getD 2 [])).isSome = true) (h3 : (numC (ws.getD 3 [])).isSome = true) :
    goM ⟨k, 0, 0, 0, b⟩ [W, wWho, wWhom, wAmount] ws = some ⟨k, numVal (ws.getD 1 []), numVal (ws.getD 2 []), numVal (ws.getD 3 []), b⟩ := by
  obtain ⟨x, y, z, v, rfl⟩ : ∃ x y z v, ws = [x, y, z, v] := by
    match ws, (show ws.length = 4 by omega) with
    | [x, y, z, v], _ => exact ⟨x, y, z, v, rfl⟩
  obtain rfl : x = W := eqT h0
  have g1 := num_some (s := y) h1
  have g2 := num_some (s := z) h2
  have g3 := num_some (s := v) h3
  exact (m2 h).2 ⟨_, _, _, g1.2, g2.2, g3.2, by rw [← g1.1, ← g2.1, ← g3.1], rfl⟩
theorem s3 (h : fieldN W = 0) (h' : fieldN V = 0) (hl : (ws.length : Int) = ((3 : Nat) : Int)) (h0 : ((bs (ws.getD 0 [])).toList == (bs W).toList) = true) (h1 : ((bs (ws.getD 1 [])).toList == (bs V).toList) = true) (h2 : (numC (ws.getD 2 [])).isSome = true) :
    goM ⟨k, 0, m, 0, b⟩ [W, V, wWho] ws = some ⟨k, numVal (ws.getD 2 []), m, 0, b⟩ := by
  obtain ⟨x, y, z, rfl⟩ := len3 (show ws.length = 3 by omega)
  obtain rfl : x = W := eqT h0
  obtain rfl : y = V := eqT h1
  have g2 := num_some (s := z) h2
  exact (m3 h h').2 ⟨_, g2.2, by rw [← g2.1], rfl⟩
theorem s4 (h : fieldN W = 0) (hl : (ws.length : Int) = ((2 : Nat) : Int)) (h0 : ((bs (ws.getD 0 [])).toList == (bs W).toList) = true) (h1 : (numC (ws.getD 1 [])).isSome = true) :
    goM ⟨k, 0, 0, 0, b⟩ [W, wWho] ws = some ⟨k, numVal (ws.getD 1 []), 0, 0, b⟩ := by
  obtain ⟨x, y, rfl⟩ := len2 (show ws.length = 2 by omega)
  obtain rfl : x = W := eqT h0
  have g1 := num_some (s := y) h1
  exact (m4 h).2 ⟨_, g1.2, by rw [← g1.1], rfl⟩
theorem s5 (h : fieldN W = 0) (hl : (ws.length : Int) = ((1 : Nat) : Int)) (h0 : ((bs (ws.getD 0 [])).toList == (bs W).toList) = true) : goM ⟨k, 0, 0, 0, b⟩ [W] ws = some ⟨k, 0, 0, 0, b⟩ := by
  obtain ⟨x, rfl⟩ := len1 (show ws.length = 1 by omega)
  obtain rfl : x = W := eqT h0
  exact (m5 h).2 ⟨rfl, rfl⟩
theorem s6 (h : fieldN W = 0) (hl : (ws.length : Int) = ((2 : Nat) : Int)) (h0 : ((bs (ws.getD 0 [])).toList == (bs W).toList) = true) (h1 : (numC (ws.getD 1 [])).isSome = true) :
    goM ⟨k, 0, 0, 0, b⟩ [W, wAmount] ws = some ⟨k, 0, 0, numVal (ws.getD 1 []), b⟩ := by
  obtain ⟨x, y, rfl⟩ := len2 (show ws.length = 2 by omega)
  obtain rfl : x = W := eqT h0
  have g1 := num_some (s := y) h1
  exact (m6 h).2 ⟨_, g1.2, by rw [← g1.1], rfl⟩
end
end Go.Sp
namespace Go.Sp
open Go Go.Am Go.Lib
theorem _root_.Go.Am.ObEnt.pushA {α : Type} {os : List (Option Ob)} {es : Nat} {mu : Bool} (F : α → List AV) (d : α) {l l' : List α} {a : α} {x : List AV} (hx : x = F a) (h : l' = l ++ [a]) :
    ObEnt os ⟨es, l.length + 1, mu, .cat l.length (.row fun i => F (l.getD i d)) (.lst [x])⟩ ⟨es, l'.length, mu, .row fun i => F (l'.getD i d)⟩ := by
  subst hx; subst h
  refine ObEnt.catRow (by simp) (fun i hi => ?_) ?_
  · have : (l ++ [a]).getD i d = l.getD i d := by simp [List.getD_eq_getElem?_getD, List.getElem?_append_left hi]
    rw [this]; exact EntL.refl _
  · have : (l ++ [a]).getD l.length d = a := by simp [List.getD_eq_getElem?_getD]
    rw [this]; exact EntL.refl _
theorem spl_len (c : UInt8) : ∀ (s : Str), (spl c s).length ≤ s.length + 1 ∧ ∀ w ∈ spl c s, w.length ≤ s.length
  | [] => ⟨Nat.le_refl _, fun w hw => by rw [List.mem_singleton.1 hw]; exact Nat.le_refl _⟩
  | b :: l => by
    have ih := spl_len c l
    by_cases h : b = c
    · subst h
      rw [spl_cons_eq]
      refine ⟨by simp; exact ih.1, fun w hw => ?_⟩
      rcases List.mem_cons.1 hw with rfl | hw
      · exact Nat.zero_le _
      · have := ih.2 w hw; simp; omega
    · rw [spl_cons_ne l h]
      cases hs : spl c l with
      | nil => exact absurd hs (spl_ne _ _)
      | cons p r =>
        rw [hs] at ih
        refine ⟨by have := ih.1; simp [consH] at this ⊢; omega, fun w hw => ?_⟩
        simp only [consH, List.mem_cons] at hw
        rcases hw with rfl | hw
        · have := ih.2 p (List.mem_cons_self ..); simp; omega
        · have := ih.2 w (List.mem_cons_of_mem _ hw); simp; omega
theorem wordsC_len (s : Str) : (wordsC s).length ≤ s.length + 1 ∧ ∀ w ∈ wordsC s, w.length ≤ s.length := by
  have hl : ((s.takeWhile (· != 35)).map fun b => if b = 9 then (32 : UInt8) else b).length ≤ s.length := by
    rw [List.length_map]; exact (List.takeWhile_sublist _).length_le
  have k := spl_len 32 ((s.takeWhile (· != 35)).map fun b => if b = 9 then 32 else b)
  unfold wordsC
  refine ⟨Nat.le_trans (List.length_filter_le _ _) (by omega), fun w hw => ?_⟩
  have := k.2 w (List.mem_filter.1 hw).1
  omega
end Go.Sp
namespace Go.Sp
open Go Go.Am Go.Lib
end Go.Sp

namespace Go.Am
open Go.RowKit
def boolOfAV:AV→Bool
 | .bool b=>b
 | _=>false
def strOfAV:AV→ByteArray
 | .str s=>s
 | _=>.empty
def homCT:List CT→Option IntKind
 | [.int k]=>some k
 | .int k::cs=>match homCT cs with
  | some k'=>bif decide (k=k') then some k else none
  | none=>none
 | _=>none
theorem homCT_at:∀ {cs:List CT} {k:IntKind},homCT cs=some k→∀ c,c∈cs→c=.int k
 | [],_,h=>by simp [homCT] at h
 | [c0],k,h=>by
  intro c hc
  cases c0<;>simp [homCT] at h
  subst h
  simpa using hc
 | c0::c1::cs,k,h=>by
  cases c0<;>simp only [homCT,reduceCtorEq] at h
  rename_i k0
  cases hr:homCT (c1::cs) with
  | none=>rw [hr] at h;simp at h
  | some k' =>
   rw [hr] at h
   simp only at h
   obtain ⟨h1,h2⟩:=bif_some h
   cases h2
   have h1:=of_decide_eq_true h1
   subst h1
   intro c hc
   rcases List.mem_cons.1 hc with rfl|hc
   ·rfl
   ·exact homCT_at hr c hc
mutual
def canon:CT→AV→AV
 | .int k,a=>.int k (intOfAV a)
 | .bool,a=>.bool (boolOfAV a)
 | .str,a=>.str (strOfAV a)
 | .sl cs,a=>.isl cs.length (islN a) (match homCT cs with
  | some k=>fun i j=>.int k (intOfAV (islF a i (bif Nat.beq cs.length 1 then 0 else j)))
  | none=>fun i j=>atL (canonRow cs (fun q=>islF a i q) 0) j)
def canonRow:List CT→(Nat→AV)→Nat→List AV
 | [],_,_=>[]
 | c::cs,g,n=>canon c (g n)::canonRow cs g (n+1)
end
theorem canonRow_get:∀ (cs:List CT) (g:Nat→AV) (n j:Nat) (c:CT),cs[j]? = some c→(canonRow cs g n)[j]? = some (canon c (g (n+j)))
 | [],_,_,_,_,h=>by simp at h
 | c::cs,g,n,0,c',h=>by simp at h;subst h;simp [canonRow]
 | c::cs,g,n,j+1,c',h=>by
  simp at h
  simp only [canonRow,List.getElem?_cons_succ]
  rw [canonRow_get cs g (n+1) j c' h,show n+1+j=n+(j+1) by omega]
theorem canonRow_length:∀ (cs:List CT) (g:Nat→AV) (n:Nat),(canonRow cs g n).length=cs.length
 | [],_,_=>rfl
 | c::cs,g,n=>by simp [canonRow,canonRow_length cs g (n+1)]
theorem Ent.islE {os:List (Option Ob)} {es n:Nat} {f g:Nat→Nat→AV} (h:∀ i j,i<n→j<es→Ent os (f i j) (g i j)∧Cl (g i j)):Ent os (.isl es n f) (.isl es n g):=fun β w v hh hr=>by
 cases hr with
 | isl vals he hcap hb hc ho hr hcl=>exact .isl vals he hcap hb hc ho (fun i j hi hj=>(h i j hi hj).1 β w _ hh (hr i j hi hj)) (fun i j hi hj=>(h i j hi hj).2)
 | isl0 h'=>exact .isl0 h'
theorem canon_ent {os:List (Option Ob)} {c:CT} {a:AV} (h:CellOk c a):Ent os a (canon c a)∧Cl (canon c a):=by
 induction h with
 | int h=>exact ⟨Ent.of_eq (by simp [canon,intOfAV]),by unfold canon;exact .int⟩
 | bool=>exact ⟨Ent.of_eq (by simp [canon,boolOfAV]),by unfold canon;exact .bool⟩
 | str h=>exact ⟨Ent.of_eq (by simp [canon,strOfAV]),by unfold canon;exact .str⟩
 | @sl cs n f hn h ih =>
  have key:∀ i j,i<n→j<cs.length→∃ c,cs[j]? = some c∧atL (canonRow cs (fun q=>f i q) 0) j=canon c (f i j):=fun i j hi hj=>by
   refine ⟨cs[j],by simp [hj],?_⟩
   unfold atL
   rw [List.getD_eq_getElem?_getD,canonRow_get cs _ 0 j cs[j] (by simp [hj])]
   simp
  unfold canon
  cases hh:homCT cs with
  | none =>
   refine ⟨Ent.islE fun i j hi hj=>?_,.isl fun i j hi hj=>?_⟩
   ·obtain ⟨c,h1,h2⟩:=key i j hi hj
    show Ent os (f i j) (atL (canonRow cs (fun q=>f i q) 0) j)∧Cl (atL (canonRow cs (fun q=>f i q) 0) j)
    rw [h2]
    exact ih i j c hi h1
   ·obtain ⟨c,h1,h2⟩:=key i j hi hj
    show Cl (atL (canonRow cs (fun q=>f i q) 0) j)
    rw [h2]
    exact (ih i j c hi h1).2
  | some k =>
   refine ⟨Ent.islE fun i j hi hj=>⟨Ent.of_eq ?_,.int⟩,.isl fun i j hi hj=>.int⟩
   show f i j=.int k (intOfAV (f i (bif Nat.beq cs.length 1 then 0 else j)))
   have hj':(bif Nat.beq cs.length 1 then 0 else j)=j:=by
    cases hb:Nat.beq cs.length 1 with
    | true =>
     have:=Nat.eq_of_beq_eq_true hb
     show 0=j
     omega
    | false=>rfl
   rw [hj']
   have hc:cs[j]? = some cs[j]:=by simp [hj]
   have:=h i j _ hi hc
   rw [homCT_at hh cs[j] (List.getElem_mem hj)] at this
   generalize f i j=q at this
   cases this
   rfl
theorem Fits.canon {w:World} {ts:List CT} {cs:List Value} (h:Fits w ts cs):∃ g:Nat→AV,(∀ (j:Nat) c,ts[j]? = some c→CellOk c (g j))∧Rel noB w (.agg (canonRow ts g 0)) (.agg cs.toArray):=by
 obtain ⟨g,hg⟩:=h.pick
 refine ⟨g,fun j c hc=>(hg j c hc).1,?_⟩
 refine .agg (by simp [canonRow_length,h.len]) fun j u v hu hv=>?_
 have hj:j<ts.length:=by rw [← canonRow_length ts g 0];exact (List.getElem?_eq_some_iff.1 hu).1
 have hc:ts[j]? = some ts[j]:=by simp [hj]
 rw [canonRow_get ts g 0 j _ hc] at hu
 obtain ⟨h1,v',h2,h3⟩:=hg j _ hc
 have hv:cs[j]? = some v:=by simpa using hv
 rw [h2] at hv;cases hv
 cases hu
 rw [Nat.zero_add]
 exact (canon_ent (os:=[]) h1).1 _ _ _ (fun k o hk=>by simp at hk) h3
theorem CellOk.int_inv {k:IntKind} {a:AV} (h:CellOk (.int k) a):(Lit.int k (intOfAV a)).wf=true:=canonI_wf h
theorem rel_agg_parts {β:Book} {w:World} {l:List AV} {vs:Array Value} (h:Rel β w (.agg l) (.agg vs)):l.length=vs.size∧∀ (j:Nat) u v,l[j]? = some u→vs[j]? = some v→Rel β w u v:=by
 cases h with|agg hl hr=>exact ⟨hl,hr⟩
section
open Go.ChangeShapes Go.WideShapes Go.ChangeAt
variable {H:Type} {enc:TypeId×Value→H} {P:Program} {W:World} {sp:Nat→Bool}
theorem open_any {r:Reach} {b0:Nat} {t:TypeId} {v:Value} {d:DataW H} {ps:List MemPlace} {ts:List CT} {ag:Bool} (ht:isAggT P t=some ag)
  (hsh:shape P 9 t=some ts) (hv:Value.okWide P W r b0 t v) (h:DataW.Trod enc P W 0 sp true t v d ps):∃ cs:List Value,Fits W ts cs∧(ag=true→v=.agg cs.toArray)∧(ag=false→cs=[v]):=by
 cases ag with
 | true =>
  obtain ⟨cs,e,hf⟩:=open_agg ht hsh hv h
  exact ⟨cs,hf,fun _=>e,fun h=>by cases h⟩
 | false =>
  obtain ⟨fuel,hf⟩:=h
  have hc:v.cells.toList=[v]:=by
   simp only [shape] at hsh
   split at hsh
   ·rename_i hu;obtain ⟨b,rfl⟩:=okWide_bool hu hv;rfl
   ·rename_i k hu;obtain ⟨n,rfl⟩:=okWide_int hu hv;rfl
   ·rename_i hu;obtain ⟨n,rfl⟩:=okWide_string hu hv;rfl
   ·rename_i e hu;obtain ⟨a,l,c,rfl⟩:=okWide_slice hu hv;rfl
   ·rename_i fs hu;simp [isAggT,hu] at ht
   ·rename_i n e hu;simp [isAggT,hu] at ht
   ·cases hsh
  rw [hc] at hf
  exact ⟨[v],open_fits 9 t fuel _ _ ts hf hsh,fun h=>by (cases h),fun _=>rfl⟩
def shapesOf (P:Program):List TypeId→Option (List (Bool×List CT))
 | []=>some []
 | t::ts=>match isAggT P t,shape P 9 t,shapesOf P ts with
  | some b,some l,some r=>some ((b,l)::r)
  | _,_,_=>none
def argsOf:List (Bool×List CT)→(Nat→Nat→AV)→Nat→List AV
 | [],_,_=>[]
 | (true,ts)::S,G,n=>.agg (canonRow ts (G n) 0)::argsOf S G (n+1)
 | (false,ts)::S,G,n=>atL (canonRow ts (G n) 0) 0::argsOf S G (n+1)
theorem open_all {r:Reach} {b0:Nat}:∀ {ts:List TypeId} {vs:List Value} {ds:List (DataW H)} {ps:List MemPlace} {S:List (Bool×List CT)} (n:Nat),shapesOf P ts=some S→DataW.TrodAll enc P W 0 sp true ts vs ds ps →
  (∀ (j:Nat) t v,ts[j]? = some t→vs[j]? = some v→Value.okWide P W r b0 t v) →
  ∃ G:Nat→Nat→AV,(∀ (k:Nat) s,S[k]? = some s→∀ (j:Nat) c,s.2[j]? = some c→CellOk c (G (n+k) j))∧Rels noB W (argsOf S G n) vs.toArray∧∃ f:Nat→DataW H,ds=(List.range S.length).map f
 | [],[],[],_,S,n,hS,hA,_=>by
  simp [shapesOf] at hS;subst hS
  exact ⟨fun _ _=>.junk,fun k s h=>by simp at h,Rels.nil,fun _=>.nil,rfl⟩
 | t::ts,v::vs,d::ds,ps,S,n,hS,hA,hok=>by
  obtain ⟨p,q,h1,h2,rfl⟩:=hA
  simp only [shapesOf] at hS
  split at hS
  rotate_left
  ·cases hS
  rename_i b l r' e1 e2 e3
  cases hS
  obtain ⟨cs,hf,g1,g2⟩:=open_any e1 e2 (hok 0 t v rfl rfl) h1
  obtain ⟨g,hg,hr⟩:=hf.canon
  obtain ⟨G,hG,hR,f,hds⟩:=open_all (n+1) e3 h2 (fun j t v ht hv=>hok (j+1) t v (by simpa using ht) (by simpa using hv))
  have hne:∀ k,Nat.beq (n+1+k) n=false:=fun k=>by
   cases hb:Nat.beq (n+1+k) n with
   | false=>rfl
   | true=>have:=Nat.eq_of_beq_eq_true hb;omega
  let G':Nat→Nat→AV:=fun m=>bif Nat.beq m n then g else G m
  have hG':∀ k,G' (n+1+k)=G (n+1+k):=fun k=>by show (bif _ then _ else _)=_;rw [hne];rfl
  have hGn:G' n=g:=by show (bif Nat.beq n n then _ else _)=_;rw [Nat.beq_refl];rfl
  have hargs:∀ (S':List (Bool×List CT)) (k:Nat),argsOf S' G' (n+1+k)=argsOf S' G (n+1+k):=by
   intro S'
   induction S' with
   | nil=>intro k;rfl
   | cons x S' ih =>
    intro k
    obtain ⟨xb,xl⟩:=x
    cases xb<;>simp only [argsOf,hG']<;>rw [show n+1+k+1=n+1+(k+1) by omega,ih]
  refine ⟨G',fun k s hs j c hc=>?_,?_,fun m=>bif Nat.beq m 0 then d else f (m - 1),?_⟩
  ·cases k with
   | zero=>simp at hs;subst hs;rw [Nat.add_zero,hGn];exact hg j c hc
   | succ k =>
    have:=hG k s (by simpa using hs) j c hc
    rw [show n+(k+1)=n+1+k by omega,hG'];exact this
  ·have h0:=hargs r' 0
   rw [Nat.add_zero] at h0
   cases b with
   | true =>
    have:=g1 rfl;subst this
    simp only [argsOf,hGn,h0]
    exact Rels.cons hr hR
   | false =>
    have:=g2 rfl;subst this
    simp only [argsOf,hGn,h0]
    refine Rels.cons ?_ hR
    obtain ⟨hl,hrr⟩:=rel_agg_parts hr
    have hlen:l.length=1:=by rw [← hf.len];rfl
    have e0:l[0]? = some l[0]:=by simp
    refine hrr 0 _ v ?_ rfl
    unfold atL
    rw [List.getD_eq_getElem?_getD,canonRow_get l g 0 0 _ e0];rfl
  ·rw [hds]
   simp [List.range_succ_eq_map]
   exact fun a _=>rfl
 | [],_::_,_,_,_,_,_,h,_=>h.elim
 | [],[],_::_,_,_,_,_,h,_=>h.elim
 | _::_,[],_,_,_,_,_,h,_=>h.elim
 | _::_,_::_,[],_,_,_,_,h,_=>h.elim
end
end Go.Am

namespace Go.Sp
open Go Go.Am Go.Lib
def iR (n : Int) : Prop := -9223372036854775808 ≤ n ∧ n ≤ 9223372036854775807
structure CmdR (a : Cmd) : Prop where
  who : iR a.who
  whom : iR a.whom
  amount : iR a.amount
theorem okR {n : Int} (h : okN n) : iR n := ⟨by have := h.1; omega, by have := h.2; omega⟩
theorem zeroR : iR 0 := ⟨by decide, by decide⟩
theorem oneR : iR 1 := ⟨by decide, by decide⟩
theorem lin_R {a : Cmd} {ws : List Str} (h : Lin a ws) : CmdR a := by
  cases h with
  | withdraw hx hy => exact ⟨okR hx, zeroR, okR hy⟩
  | pay hx hy hz => exact ⟨okR hx, okR hy, okR hz⟩
  | transfer hx hy hz => exact ⟨okR hx, okR hy, okR hz⟩
  | merchant hx => exact ⟨okR hx, zeroR, zeroR⟩
  | holder hx => exact ⟨okR hx, oneR, zeroR⟩
  | double hx hy hz => exact ⟨okR hx, okR hy, okR hz⟩
  | trace hx => exact ⟨okR hx, zeroR, zeroR⟩
  | clear => exact ⟨zeroR, zeroR, zeroR⟩
  | tick hx => exact ⟨zeroR, zeroR, okR hx⟩
theorem lin_text {a : Cmd} {ws : List Str} (h : Lin a ws) : textF a = some (joinS ws) := by
  rw [textF_eq, if_pos (lin_wr h).1, (lin_wr h).2]
theorem lin_spl {a : Cmd} {ws : List Str} (h : Lin a ws) : spl 32 (joinS ws) = ws := spl_joinS (lin_ok h).1 fun w hw b hb => (((lin_ok h).2 w hw).2 b hb).1
theorem itoa_d1 {n : Nat} (h : n < 10) : itoa (n : Int) = [UInt8.ofNat (48 + n)] := by rw [itoa_nonneg, decDigits_one h]
theorem itoa_d2 {n : Nat} (h1 : ¬ n < 10) (h2 : n < 100) : itoa (n : Int) = [UInt8.ofNat (48 + n / 10), UInt8.ofNat (48 + n % 10)] := by rw [itoa_nonneg, decDigits_two h1 h2]
end Go.Sp
namespace Go.Sp
open Go Go.Am Go.Lib
def cmdOf (g : Nat → AV) : Cmd := ⟨intOfAV (g 0), intOfAV (g 1), intOfAV (g 2), intOfAV (g 3), boolOfAV (g 4)⟩
def cmdT : List CT := [.int .i64, .int .i64, .int .i64, .int .i64, .bool]
theorem cell_R {a : AV} (h : CellOk (.int .i64) a) : iR (intOfAV a) := by
  obtain ⟨h1, h2⟩ := (Lit.wf_int_iff _ _).1 h.int_inv
  exact ⟨Int.le_trans (by decide) h1, Int.le_trans h2 (by decide)⟩
theorem cmd_R {g : Nat → AV} (h : ∀ (j : Nat) c, cmdT[j]? = some c → CellOk c (g j)) : CmdR (cmdOf g) := ⟨cell_R (h 1 _ rfl), cell_R (h 2 _ rfl), cell_R (h 3 _ rfl)⟩
def strB (g : Nat → AV) : Str := (strOfAV (g 0)).data.toList
end Go.Sp

namespace Go.Proofs
open Go.Shelf
def Tryd.lays156_ren : Go.Shelf.Ren := ⟨fun | 156 => 27 | 165 => 45 | 166 => 34 | 169 => 35 | 240 => 51 | 241 => 57 | 276 => 62 | 277 => 70 | n => n, fun | 31 => 35 | 9 => 9 | 3 => 3 | 4 => 4 | 0 => 0 | 20 => 20 | 72 => 65 | 76 => 68 | 70 => 62 | 37 => 63 | 75 => 67 | 127 => 80 | 164 => 87 | 5 => 5 | 80 => 30 | n => n, fun | n => n⟩
theorem Tryd.lays156 : Go.Proofs.Lays.n156 Tryd.prog Tryd.lays156_ren := {
  mixed := by kernel_rfl
  f156 := Tryd.func27.trans (congrArg some (by kernel_rfl))
  f165 := Tryd.func45.trans (congrArg some (by kernel_rfl))
  f166 := Tryd.func34.trans (congrArg some (by kernel_rfl))
  f169 := Tryd.func35.trans (congrArg some (by kernel_rfl))
  f240 := Tryd.func51.trans (congrArg some (by kernel_rfl))
  f241 := Tryd.func57.trans (congrArg some (by kernel_rfl))
  f276 := Tryd.func62.trans (congrArg some (by kernel_rfl))
  f277 := Tryd.func70.trans (congrArg some (by kernel_rfl))
  t0 := Tryd.underlying0
  a0 := Tryd.isAgg0
  z0 := Tryd.sizeOf0
  v0 := Tryd.zeroValue0
  t3 := Tryd.underlying3
  a3 := Tryd.isAgg3
  z3 := Tryd.sizeOf3
  v3 := Tryd.zeroValue3
  t4 := Tryd.underlying4
  a4 := Tryd.isAgg4
  z4 := Tryd.sizeOf4
  v4 := Tryd.zeroValue4
  t9 := Tryd.underlying9
  a9 := Tryd.isAgg9
  z9 := Tryd.sizeOf9
  v9 := Tryd.zeroValue9
  t20 := Tryd.underlying20
  a20 := Tryd.isAgg20
  z20 := Tryd.sizeOf20
  v20 := Tryd.zeroValue20
  t31 := Tryd.underlying35
  a31 := Tryd.isAgg35
  z31 := Tryd.sizeOf35
  v31 := Tryd.zeroValue35
  t37 := Tryd.underlying63
  a37 := Tryd.isAgg63
  z37 := Tryd.sizeOf63
  v37 := Tryd.zeroValue63
  t70 := Tryd.underlying62
  a70 := Tryd.isAgg62
  z70 := Tryd.sizeOf62
  v70 := Tryd.zeroValue62
  t72 := Tryd.underlying65
  a72 := Tryd.isAgg65
  z72 := Tryd.sizeOf65
  v72 := Tryd.zeroValue65
  t75 := Tryd.underlying67
  a75 := Tryd.isAgg67
  z75 := Tryd.sizeOf67
  v75 := Tryd.zeroValue67
  t76 := Tryd.underlying68
  a76 := Tryd.isAgg68
  z76 := Tryd.sizeOf68
  v76 := Tryd.zeroValue68
  t127 := Tryd.underlying80
  a127 := Tryd.isAgg80
  z127 := Tryd.sizeOf80
  v127 := Tryd.zeroValue80
  t164 := Tryd.underlying87
  a164 := Tryd.isAgg87
  z164 := Tryd.sizeOf87
  v164 := Tryd.zeroValue87 }
theorem Tryd.Builder_Extra_156 : Builder.Extra Tryd.prog Tryd.lays156_ren := {
  sizeBuilder := by kernel_rfl
  liesBuilder := by kernel_rfl
  t5 := Tryd.underlying5
  a5 := Tryd.isAgg5
  z5 := Tryd.sizeOf5
  v5 := Tryd.zeroValue5
  infoByte := by kernel_rfl
  cellsByte := by kernel_rfl
  sizeByte := by kernel_rfl
  neB5 := by decide }
open Go.RowKit in
theorem Tryd.strings_Join_none (a : Option Addr) (c : Nat) (sep : ByteArray) (w : World) :
    Calls Tryd.prog 27 #[.slice a 0 c, .string sep] w fun e w' => e = .returned (.string ⟨#[]⟩) ∧ w' = w := Any.strings_Join_none Tryd.lays156 Tryd.Builder_Extra_156 a c sep w
open Go.RowKit in
theorem Tryd.strings_Join (bk o c : Nat) (xs : List ByteArray) (sep : ByteArray) (w : World) (hcells : ∀ (j : Nat) x, xs[j]? = some x → w.cell? ⟨bk, o + j, none⟩ = some (.string x)) (hbk : bk < w.heap.size) (hN : xs.length ≤ 140737488355328) (hcap : xs.length ≤ c) (hlen : (Lib.join (xs.map (·.data.toList)) sep.data.toList).length ≤ 140737488355328) :
    Calls Tryd.prog 27 #[.slice (some ⟨bk, o, none⟩) xs.length c, .string sep] w fun e w' => e = .returned (.string ⟨(Lib.join (xs.map (·.data.toList)) sep.data.toList).toArray⟩) ∧ Below w.heap.size w w' := Any.strings_Join Tryd.lays156 Tryd.Builder_Extra_156 bk o c xs sep w hcells hbk hN hcap hlen
def Tryd.laysM171_ren : Go.Shelf.Ren := ⟨fun | 171 => 48 | 243 => 60 | 246 => 72 | 283 => 79 | 284 => 80 | 285 => 81 | 286 => 82 | 129 => 89 | 317 => 88 | 318 => 90 | 319 => 91 | 320 => 92 | 337 => 96 | 338 => 97 | n => n, fun | 3 => 3 | 9 => 9 | 2 => 2 | 4 => 4 | 171 => 117 | 0 => 0 | 53 => 118 | 37 => 63 | 5 => 5 | 173 => 121 | 212 => 132 | 51 => 34 | 20 => 20 | 213 => 133 | 46 => 92 | 232 => 147 | 233 => 148 | n => n, fun | 17 => 5 | 18 => 8 | 19 => 9 | n => n⟩
theorem Tryd.laysM171 : Go.Proofs.LaysM.n171 Tryd.prog Tryd.laysM171_ren := {
  mixed := by kernel_rfl
  f129 := Tryd.func89.trans (congrArg some (by kernel_rfl))
  f171 := Tryd.func48.trans (congrArg some (by kernel_rfl))
  f243 := Tryd.func60.trans (congrArg some (by kernel_rfl))
  f246 := Tryd.func72.trans (congrArg some (by kernel_rfl))
  f283 := Tryd.func79.trans (congrArg some (by kernel_rfl))
  f284 := Tryd.func80.trans (congrArg some (by kernel_rfl))
  f285 := Tryd.func81.trans (congrArg some (by kernel_rfl))
  f286 := Tryd.func82.trans (congrArg some (by kernel_rfl))
  f317 := Tryd.func88.trans (congrArg some (by kernel_rfl))
  f318 := Tryd.func90.trans (congrArg some (by kernel_rfl))
  f319 := Tryd.func91.trans (congrArg some (by kernel_rfl))
  f320 := Tryd.func92.trans (congrArg some (by kernel_rfl))
  f337 := Tryd.func96.trans (congrArg some (by kernel_rfl))
  f338 := Tryd.func97.trans (congrArg some (by kernel_rfl))
  t0 := Tryd.underlying0
  a0 := Tryd.isAgg0
  z0 := Tryd.sizeOf0
  v0 := Tryd.zeroValue0
  t2 := Tryd.underlying2
  a2 := Tryd.isAgg2
  z2 := Tryd.sizeOf2
  v2 := Tryd.zeroValue2
  t3 := Tryd.underlying3
  a3 := Tryd.isAgg3
  z3 := Tryd.sizeOf3
  v3 := Tryd.zeroValue3
  t4 := Tryd.underlying4
  a4 := Tryd.isAgg4
  z4 := Tryd.sizeOf4
  v4 := Tryd.zeroValue4
  t5 := Tryd.underlying5
  a5 := Tryd.isAgg5
  z5 := Tryd.sizeOf5
  v5 := Tryd.zeroValue5
  t9 := Tryd.underlying9
  a9 := Tryd.isAgg9
  z9 := Tryd.sizeOf9
  v9 := Tryd.zeroValue9
  t20 := Tryd.underlying20
  a20 := Tryd.isAgg20
  z20 := Tryd.sizeOf20
  v20 := Tryd.zeroValue20
  t37 := Tryd.underlying63
  a37 := Tryd.isAgg63
  z37 := Tryd.sizeOf63
  v37 := Tryd.zeroValue63
  t46 := Tryd.underlying92
  a46 := Tryd.isAgg92
  z46 := Tryd.sizeOf92
  v46 := Tryd.zeroValue92
  t51 := Tryd.underlying34
  a51 := Tryd.isAgg34
  z51 := Tryd.sizeOf34
  v51 := Tryd.zeroValue34
  t53 := Tryd.underlying118
  a53 := Tryd.isAgg118
  z53 := Tryd.sizeOf118
  v53 := Tryd.zeroValue118
  t171 := Tryd.underlying117
  a171 := Tryd.isAgg117
  z171 := Tryd.sizeOf117
  v171 := Tryd.zeroValue117
  t173 := Tryd.underlying121
  a173 := Tryd.isAgg121
  z173 := Tryd.sizeOf121
  v173 := Tryd.zeroValue121
  t212 := Tryd.underlying132
  a212 := Tryd.isAgg132
  z212 := Tryd.sizeOf132
  v212 := Tryd.zeroValue132
  t213 := Tryd.underlying133
  a213 := Tryd.isAgg133
  z213 := Tryd.sizeOf133
  t232 := Tryd.underlying147
  a232 := Tryd.isAgg147
  z232 := Tryd.sizeOf147
  v232 := Tryd.zeroValue147
  t233 := Tryd.underlying148
  a233 := Tryd.isAgg148
  z233 := Tryd.sizeOf148
  v233 := Tryd.zeroValue148
  g17 := by kernel_rfl
  g18 := by kernel_rfl
  g19 := by kernel_rfl
  i0 := by kernel_rfl
  i2 := by kernel_rfl
  i3 := by kernel_rfl
  i4 := by kernel_rfl
  i5 := by kernel_rfl
  i9 := by kernel_rfl
  i20 := by kernel_rfl
  i37 := by kernel_rfl
  i46 := by kernel_rfl
  i51 := by kernel_rfl
  i53 := by kernel_rfl
  i171 := by kernel_rfl
  i173 := by kernel_rfl
  i212 := by kernel_rfl
  i232 := by kernel_rfl
  i233 := by kernel_rfl
  m17 := by kernel_rfl
  m18 := by kernel_rfl
  m19 := by kernel_rfl }
open Go.RowKit Go.Sort Go.Lib in
theorem Tryd.strconv_Itoa (n : Int) (h0 : -9223372036854775808 ≤ n) (h1 : n ≤ 9223372036854775807) (w : World) (htab : Lib.TabIs Tryd.prog w "internal/strconv.uint64pow10" .u64 Lib.pow10Tab) :
    Calls Tryd.prog 48 #[.int .i64 n] w fun e w' => e = .returned (.string ⟨(Lib.itoa n).toArray⟩) ∧ ∃ k os, w' = grow (w.drewN k) os := Any.strconv_Itoa Tryd.laysM171 n h0 h1 w htab
def Tryd.laysC172_ren : Go.Shelf.Ren := ⟨fun | 172 => 61 | 244 => 73 | 245 => 74 | 247 => 83 | 279 => 84 | 280 => 85 | 281 => 86 | 282 => 87 | 287 => 93 | 316 => 94 | 171 => 48 | 205 => 95 | 321 => 98 | 322 => 99 | 243 => 60 | 246 => 72 | 283 => 79 | 284 => 80 | 285 => 81 | 286 => 82 | 129 => 89 | 317 => 88 | 318 => 90 | 319 => 91 | 320 => 92 | 337 => 96 | 338 => 97 | n => n, fun | 9 => 9 | 3 => 3 | 75 => 67 | 76 => 68 | 4 => 4 | 5 => 5 | 167 => 123 | 37 => 63 | 0 => 0 | 85 => 124 | 2 => 2 | 168 => 126 | 53 => 118 | 175 => 136 | 46 => 92 | 210 => 140 | 127 => 80 | 145 => 146 | 143 => 144 | 21 => 21 | 171 => 117 | 173 => 121 | 212 => 132 | 51 => 34 | 20 => 20 | 213 => 133 | 232 => 147 | 233 => 148 | 80 => 30 | n => n, fun | 15 => 6 | 16 => 7 | 17 => 5 | 18 => 8 | 19 => 9 | n => n⟩
theorem Tryd.laysC172 : Go.Proofs.LaysC.n172 Tryd.prog Tryd.laysC172_ren := {
  mixed := by kernel_rfl
  f129 := Tryd.func89.trans (congrArg some (by kernel_rfl))
  f171 := Tryd.func48.trans (congrArg some (by kernel_rfl))
  f172 := Tryd.func61.trans (congrArg some (by kernel_rfl))
  f205 := Tryd.func95.trans (congrArg some (by kernel_rfl))
  f243 := Tryd.func60.trans (congrArg some (by kernel_rfl))
  f244 := Tryd.func73.trans (congrArg some (by kernel_rfl))
  f245 := Tryd.func74.trans (congrArg some (by kernel_rfl))
  f246 := Tryd.func72.trans (congrArg some (by kernel_rfl))
  f247 := Tryd.func83.trans (congrArg some (by kernel_rfl))
  f279 := Tryd.func84.trans (congrArg some (by kernel_rfl))
  f280 := Tryd.func85.trans (congrArg some (by kernel_rfl))
  f281 := Tryd.func86.trans (congrArg some (by kernel_rfl))
  f282 := Tryd.func87.trans (congrArg some (by kernel_rfl))
  f283 := Tryd.func79.trans (congrArg some (by kernel_rfl))
  f284 := Tryd.func80.trans (congrArg some (by kernel_rfl))
  f285 := Tryd.func81.trans (congrArg some (by kernel_rfl))
  f286 := Tryd.func82.trans (congrArg some (by kernel_rfl))
  f287 := Tryd.func93.trans (congrArg some (by kernel_rfl))
  f316 := Tryd.func94.trans (congrArg some (by kernel_rfl))
  f317 := Tryd.func88.trans (congrArg some (by kernel_rfl))
  f318 := Tryd.func90.trans (congrArg some (by kernel_rfl))
  f319 := Tryd.func91.trans (congrArg some (by kernel_rfl))
  f320 := Tryd.func92.trans (congrArg some (by kernel_rfl))
  f321 := Tryd.func98.trans (congrArg some (by kernel_rfl))
  f322 := Tryd.func99.trans (congrArg some (by kernel_rfl))
  f337 := Tryd.func96.trans (congrArg some (by kernel_rfl))
  f338 := Tryd.func97.trans (congrArg some (by kernel_rfl))
  t0 := Tryd.underlying0
  a0 := Tryd.isAgg0
  z0 := Tryd.sizeOf0
  v0 := Tryd.zeroValue0
  t2 := Tryd.underlying2
  a2 := Tryd.isAgg2
  z2 := Tryd.sizeOf2
  v2 := Tryd.zeroValue2
  t3 := Tryd.underlying3
  a3 := Tryd.isAgg3
  z3 := Tryd.sizeOf3
  v3 := Tryd.zeroValue3
  t4 := Tryd.underlying4
  a4 := Tryd.isAgg4
  z4 := Tryd.sizeOf4
  v4 := Tryd.zeroValue4
  t5 := Tryd.underlying5
  a5 := Tryd.isAgg5
  z5 := Tryd.sizeOf5
  v5 := Tryd.zeroValue5
  t9 := Tryd.underlying9
  a9 := Tryd.isAgg9
  z9 := Tryd.sizeOf9
  v9 := Tryd.zeroValue9
  t20 := Tryd.underlying20
  a20 := Tryd.isAgg20
  z20 := Tryd.sizeOf20
  v20 := Tryd.zeroValue20
  t21 := Tryd.underlying21
  a21 := Tryd.isAgg21
  z21 := Tryd.sizeOf21
  v21 := Tryd.zeroValue21
  t37 := Tryd.underlying63
  a37 := Tryd.isAgg63
  z37 := Tryd.sizeOf63
  v37 := Tryd.zeroValue63
  t46 := Tryd.underlying92
  a46 := Tryd.isAgg92
  z46 := Tryd.sizeOf92
  v46 := Tryd.zeroValue92
  t51 := Tryd.underlying34
  a51 := Tryd.isAgg34
  z51 := Tryd.sizeOf34
  v51 := Tryd.zeroValue34
  t53 := Tryd.underlying118
  a53 := Tryd.isAgg118
  z53 := Tryd.sizeOf118
  v53 := Tryd.zeroValue118
  t75 := Tryd.underlying67
  a75 := Tryd.isAgg67
  z75 := Tryd.sizeOf67
  v75 := Tryd.zeroValue67
  t76 := Tryd.underlying68
  a76 := Tryd.isAgg68
  z76 := Tryd.sizeOf68
  v76 := Tryd.zeroValue68
  t85 := Tryd.underlying124
  a85 := Tryd.isAgg124
  z85 := Tryd.sizeOf124
  v85 := Tryd.zeroValue124
  t127 := Tryd.underlying80
  a127 := Tryd.isAgg80
  z127 := Tryd.sizeOf80
  v127 := Tryd.zeroValue80
  t143 := Tryd.underlying144
  a143 := Tryd.isAgg144
  z143 := Tryd.sizeOf144
  v143 := Tryd.zeroValue144
  t145 := Tryd.underlying146
  a145 := Tryd.isAgg146
  z145 := Tryd.sizeOf146
  v145 := Tryd.zeroValue146
  t167 := Tryd.underlying123
  a167 := Tryd.isAgg123
  z167 := Tryd.sizeOf123
  v167 := Tryd.zeroValue123
  t168 := Tryd.underlying126
  a168 := Tryd.isAgg126
  z168 := Tryd.sizeOf126
  v168 := Tryd.zeroValue126
  t171 := Tryd.underlying117
  a171 := Tryd.isAgg117
  z171 := Tryd.sizeOf117
  v171 := Tryd.zeroValue117
  t173 := Tryd.underlying121
  a173 := Tryd.isAgg121
  z173 := Tryd.sizeOf121
  v173 := Tryd.zeroValue121
  t175 := Tryd.underlying136
  a175 := Tryd.isAgg136
  z175 := Tryd.sizeOf136
  v175 := Tryd.zeroValue136
  t210 := Tryd.underlying140
  a210 := Tryd.isAgg140
  z210 := Tryd.sizeOf140
  v210 := Tryd.zeroValue140
  t212 := Tryd.underlying132
  a212 := Tryd.isAgg132
  z212 := Tryd.sizeOf132
  v212 := Tryd.zeroValue132
  t213 := Tryd.underlying133
  a213 := Tryd.isAgg133
  z213 := Tryd.sizeOf133
  t232 := Tryd.underlying147
  a232 := Tryd.isAgg147
  z232 := Tryd.sizeOf147
  v232 := Tryd.zeroValue147
  t233 := Tryd.underlying148
  a233 := Tryd.isAgg148
  z233 := Tryd.sizeOf148
  v233 := Tryd.zeroValue148
  g15 := by kernel_rfl
  g16 := by kernel_rfl
  g17 := by kernel_rfl
  g18 := by kernel_rfl
  g19 := by kernel_rfl
  t80 := Tryd.underlying30
  a80 := Tryd.isAgg30
  z80 := Tryd.sizeOf30
  v80 := Tryd.zeroValue30
  i0 := by kernel_rfl
  i2 := by kernel_rfl
  i3 := by kernel_rfl
  i4 := by kernel_rfl
  i5 := by kernel_rfl
  i9 := by kernel_rfl
  i20 := by kernel_rfl
  i21 := by kernel_rfl
  i37 := by kernel_rfl
  i46 := by kernel_rfl
  i51 := by kernel_rfl
  i53 := by kernel_rfl
  i75 := by kernel_rfl
  i76 := by kernel_rfl
  i80 := by kernel_rfl
  i85 := by kernel_rfl
  i127 := by kernel_rfl
  i143 := by kernel_rfl
  i145 := by kernel_rfl
  i167 := by kernel_rfl
  i168 := by kernel_rfl
  i171 := by kernel_rfl
  i173 := by kernel_rfl
  i175 := by kernel_rfl
  i210 := by kernel_rfl
  i212 := by kernel_rfl
  i232 := by kernel_rfl
  i233 := by kernel_rfl
  m15 := by kernel_rfl
  m16 := by kernel_rfl
  m17 := by kernel_rfl
  m18 := by kernel_rfl
  m19 := by kernel_rfl
  c0 := by kernel_rfl
  c2 := by kernel_rfl
  c3 := by kernel_rfl
  c4 := by kernel_rfl
  c5 := by kernel_rfl
  c9 := by kernel_rfl
  c20 := by kernel_rfl
  c21 := by kernel_rfl
  c37 := by kernel_rfl
  c46 := by kernel_rfl
  c51 := by kernel_rfl
  c53 := by kernel_rfl
  c75 := by kernel_rfl
  c76 := by kernel_rfl
  c80 := by kernel_rfl
  c85 := by kernel_rfl
  c127 := by kernel_rfl
  c143 := by kernel_rfl
  c145 := by kernel_rfl
  c167 := by kernel_rfl
  c168 := by kernel_rfl
  c171 := by kernel_rfl
  c173 := by kernel_rfl
  c175 := by kernel_rfl
  c210 := by kernel_rfl
  c212 := by kernel_rfl
  c213 := by kernel_rfl
  c232 := by kernel_rfl
  c233 := by kernel_rfl }
open Go.RowKit in
theorem Tryd.strconv_Atoi_ok (s : ByteArray) (hmax : s.size ≤ 9223372036854775806) (v : Int) (h : Lib.atoiAll s.data.toList = .ok v) (w : World) :
    Calls Tryd.prog 61 #[.string s] w fun e w' => e = .returned (.tuple #[.int .i64 v, .nilIface]) ∧ (w' = w ∨ ∃ t, w' = Lib.bytesWorld w 5 t) := Any.strconv_Atoi_ok Tryd.laysC172 s hmax v h w
open Go.RowKit in
theorem Tryd.strconv_Atoi_syntax (s : ByteArray) (hlim : s.size ≤ 281474976710656) (h : Lib.atoiAll s.data.toList = Lib.NumEnd.syntax) (ev : Value) (w : World) (hv : w.cell? ⟨6, 0, none⟩ = some ev) (hev : ev = .nilIface ∨ ∃ te pe, ev = .iface te pe) :
    Calls Tryd.prog 61 #[.string s] w fun e w' => ∃ N, e = .returned (.tuple #[.int .i64 (0), .iface 126 (.pointer (some ⟨N, 0, none⟩))]) ∧ w.heap.size ≤ N ∧ w'.heap[N]? = some (.cells #[.string ⟨#[65, 116, 111, 105]⟩, .string s, ev] 140 (0, 0)) ∧ Below w.heap.size w w' := Any.strconv_Atoi_syntax Tryd.laysC172 s hlim h ev w hv hev
open Go.RowKit in
theorem Tryd.strconv_Atoi_range (s : ByteArray) (hlim : s.size ≤ 281474976710656) (h : Lib.atoiAll s.data.toList = .range) (ev : Value) (w : World) (hv : w.cell? ⟨7, 0, none⟩ = some ev) (hev : ev = .nilIface ∨ ∃ te pe, ev = .iface te pe) :
    Calls Tryd.prog 61 #[.string s] w fun e w' => ∃ N, e = .returned (.tuple #[.int .i64 (Lib.atoiSat s.data.toList), .iface 126 (.pointer (some ⟨N, 0, none⟩))]) ∧ w.heap.size ≤ N ∧ w'.heap[N]? = some (.cells #[.string ⟨#[65, 116, 111, 105]⟩, .string s, ev] 140 (0, 0)) ∧ Below w.heap.size w w' := Any.strconv_Atoi_range Tryd.laysC172 s hlim h ev w hv hev
def Tryd.lays146_ren : Go.Shelf.Ren := ⟨fun | 146 => 16 | 221 => 38 | 268 => 52 | 138 => 53 | 143 => 43 | 195 => 63 | 197 => 55 | 218 => 64 | 219 => 56 | 260 => 65 | 217 => 66 | 225 => 67 | 224 => 68 | 267 => 69 | 266 => 75 | 314 => 76 | n => n, fun | 9 => 9 | 31 => 35 | 3 => 3 | 4 => 4 | 0 => 0 | 105 => 82 | 21 => 21 | 5 => 5 | 46 => 92 | 119 => 84 | 139 => 103 | 138 => 102 | 146 => 104 | 51 => 34 | n => n, fun | 1 => 1 | 3 => 3 | 4 => 4 | n => n⟩
theorem Tryd.lays146 : Go.Proofs.Lays.n146 Tryd.prog Tryd.lays146_ren := {
  mixed := by kernel_rfl
  f138 := Tryd.func53.trans (congrArg some (by kernel_rfl))
  f143 := Tryd.func43.trans (congrArg some (by kernel_rfl))
  f146 := Tryd.func16.trans (congrArg some (by kernel_rfl))
  f195 := Tryd.func63.trans (congrArg some (by kernel_rfl))
  f197 := Tryd.func55.trans (congrArg some (by kernel_rfl))
  f217 := Tryd.func66.trans (congrArg some (by kernel_rfl))
  f218 := Tryd.func64.trans (congrArg some (by kernel_rfl))
  f219 := Tryd.func56.trans (congrArg some (by kernel_rfl))
  f221 := Tryd.func38.trans (congrArg some (by kernel_rfl))
  f224 := Tryd.func68.trans (congrArg some (by kernel_rfl))
  f225 := Tryd.func67.trans (congrArg some (by kernel_rfl))
  f260 := Tryd.func65.trans (congrArg some (by kernel_rfl))
  f266 := Tryd.func75.trans (congrArg some (by kernel_rfl))
  f267 := Tryd.func69.trans (congrArg some (by kernel_rfl))
  f268 := Tryd.func52.trans (congrArg some (by kernel_rfl))
  f314 := Tryd.func76.trans (congrArg some (by kernel_rfl))
  t0 := Tryd.underlying0
  a0 := Tryd.isAgg0
  z0 := Tryd.sizeOf0
  v0 := Tryd.zeroValue0
  t3 := Tryd.underlying3
  a3 := Tryd.isAgg3
  z3 := Tryd.sizeOf3
  v3 := Tryd.zeroValue3
  t4 := Tryd.underlying4
  a4 := Tryd.isAgg4
  z4 := Tryd.sizeOf4
  v4 := Tryd.zeroValue4
  t5 := Tryd.underlying5
  a5 := Tryd.isAgg5
  z5 := Tryd.sizeOf5
  v5 := Tryd.zeroValue5
  t9 := Tryd.underlying9
  a9 := Tryd.isAgg9
  z9 := Tryd.sizeOf9
  v9 := Tryd.zeroValue9
  t21 := Tryd.underlying21
  a21 := Tryd.isAgg21
  z21 := Tryd.sizeOf21
  v21 := Tryd.zeroValue21
  t31 := Tryd.underlying35
  a31 := Tryd.isAgg35
  z31 := Tryd.sizeOf35
  v31 := Tryd.zeroValue35
  t46 := Tryd.underlying92
  a46 := Tryd.isAgg92
  z46 := Tryd.sizeOf92
  v46 := Tryd.zeroValue92
  t51 := Tryd.underlying34
  a51 := Tryd.isAgg34
  z51 := Tryd.sizeOf34
  v51 := Tryd.zeroValue34
  t105 := Tryd.underlying82
  a105 := Tryd.isAgg82
  z105 := Tryd.sizeOf82
  v105 := Tryd.zeroValue82
  t119 := Tryd.underlying84
  a119 := Tryd.isAgg84
  z119 := Tryd.sizeOf84
  t138 := Tryd.underlying102
  a138 := Tryd.isAgg102
  z138 := Tryd.sizeOf102
  v138 := Tryd.zeroValue102
  t139 := Tryd.underlying103
  a139 := Tryd.isAgg103
  z139 := Tryd.sizeOf103
  v139 := Tryd.zeroValue103
  t146 := Tryd.underlying104
  a146 := Tryd.isAgg104
  z146 := Tryd.sizeOf104
  v146 := Tryd.zeroValue104
  g1 := by kernel_rfl
  g3 := by kernel_rfl
  g4 := by kernel_rfl }
open Go.RowKit Go.Lib in
theorem Tryd.strings_Split (s sep : ByteArray) (m : Int) (w : World) (hs : s.size < 4294967281) (hm : w.cell? ⟨1, 0, none⟩ = some (.int .i64 m)) (h1 : 1 ≤ sep.size) :
    Calls Tryd.prog 16 #[.string s, .string sep] w fun e w' =>
      e = .returned (.slice (some ⟨w.heap.size, 0, none⟩) (Lib.countB s sep + 1) (Lib.countB s sep + 1)) ∧ w' = w.alloc (.cells ((Lib.splitB sep 0 (Lib.countB s sep) s).map Value.string).toArray 9) := Any.strings_Split Tryd.lays146 (by kernel_rfl) s sep m w hs hm h1
def Tryd.lays157_ren : Go.Shelf.Ren := ⟨fun | 157 => 46 | 229 => 58 | 199 => 59 | 261 => 71 | 311 => 77 | 312 => 78 | n => n, fun | 9 => 9 | 31 => 35 | 3 => 3 | 5 => 5 | 4 => 4 | 119 => 84 | 0 => 0 | 40 => 86 | 152 => 94 | 21 => 21 | 154 => 96 | 51 => 34 | 141 => 98 | 196 => 109 | 193 => 106 | 198 => 112 | 49 => 110 | 194 => 107 | 201 => 115 | 226 => 129 | 46 => 92 | 227 => 130 | n => n, fun | 0 => 0 | 6 => 2 | n => n⟩
theorem Tryd.lays157 : Go.Proofs.Lays.n157 Tryd.prog Tryd.lays157_ren := {
  mixed := by kernel_rfl
  f157 := Tryd.func46.trans (congrArg some (by kernel_rfl))
  f199 := Tryd.func59.trans (congrArg some (by kernel_rfl))
  f229 := Tryd.func58.trans (congrArg some (by kernel_rfl))
  f261 := Tryd.func71.trans (congrArg some (by kernel_rfl))
  f311 := Tryd.func77.trans (congrArg some (by kernel_rfl))
  f312 := Tryd.func78.trans (congrArg some (by kernel_rfl))
  t0 := Tryd.underlying0
  a0 := Tryd.isAgg0
  z0 := Tryd.sizeOf0
  v0 := Tryd.zeroValue0
  t3 := Tryd.underlying3
  a3 := Tryd.isAgg3
  z3 := Tryd.sizeOf3
  v3 := Tryd.zeroValue3
  t4 := Tryd.underlying4
  a4 := Tryd.isAgg4
  z4 := Tryd.sizeOf4
  v4 := Tryd.zeroValue4
  t5 := Tryd.underlying5
  a5 := Tryd.isAgg5
  z5 := Tryd.sizeOf5
  v5 := Tryd.zeroValue5
  t9 := Tryd.underlying9
  a9 := Tryd.isAgg9
  z9 := Tryd.sizeOf9
  v9 := Tryd.zeroValue9
  t21 := Tryd.underlying21
  a21 := Tryd.isAgg21
  z21 := Tryd.sizeOf21
  v21 := Tryd.zeroValue21
  t31 := Tryd.underlying35
  a31 := Tryd.isAgg35
  z31 := Tryd.sizeOf35
  v31 := Tryd.zeroValue35
  t40 := Tryd.underlying86
  a40 := Tryd.isAgg86
  z40 := Tryd.sizeOf86
  v40 := Tryd.zeroValue86
  t46 := Tryd.underlying92
  a46 := Tryd.isAgg92
  z46 := Tryd.sizeOf92
  v46 := Tryd.zeroValue92
  t49 := Tryd.underlying110
  a49 := Tryd.isAgg110
  z49 := Tryd.sizeOf110
  v49 := Tryd.zeroValue110
  t51 := Tryd.underlying34
  a51 := Tryd.isAgg34
  z51 := Tryd.sizeOf34
  v51 := Tryd.zeroValue34
  t119 := Tryd.underlying84
  a119 := Tryd.isAgg84
  z119 := Tryd.sizeOf84
  t141 := Tryd.underlying98
  a141 := Tryd.isAgg98
  z141 := Tryd.sizeOf98
  v141 := Tryd.zeroValue98
  t152 := Tryd.underlying94
  a152 := Tryd.isAgg94
  z152 := Tryd.sizeOf94
  v152 := Tryd.zeroValue94
  t154 := Tryd.underlying96
  a154 := Tryd.isAgg96
  z154 := Tryd.sizeOf96
  v154 := Tryd.zeroValue96
  t193 := Tryd.underlying106
  a193 := Tryd.isAgg106
  z193 := Tryd.sizeOf106
  v193 := Tryd.zeroValue106
  t194 := Tryd.underlying107
  a194 := Tryd.isAgg107
  z194 := Tryd.sizeOf107
  v194 := Tryd.zeroValue107
  t196 := Tryd.underlying109
  a196 := Tryd.isAgg109
  z196 := Tryd.sizeOf109
  v196 := Tryd.zeroValue109
  t198 := Tryd.underlying112
  a198 := Tryd.isAgg112
  z198 := Tryd.sizeOf112
  v198 := Tryd.zeroValue112
  t201 := Tryd.underlying115
  a201 := Tryd.isAgg115
  z201 := Tryd.sizeOf115
  v201 := Tryd.zeroValue115
  t226 := Tryd.underlying129
  a226 := Tryd.isAgg129
  z226 := Tryd.sizeOf129
  v226 := Tryd.zeroValue129
  t227 := Tryd.underlying130
  a227 := Tryd.isAgg130
  z227 := Tryd.sizeOf130
  v227 := Tryd.zeroValue130
  g0 := by kernel_rfl
  g6 := by kernel_rfl }
open Go.RowKit Go.Lib in
theorem Tryd.strings_Fields (s : ByteArray) (w : World) (hs : s.size < 4294967281) (hascii : ∀ (j : Nat) b, s.data.toList[j]? = some b → b.toNat < 128) (htab : Lib.TabIs Tryd.prog w "strings.asciiSpace" .u8 Lib.asciiSpaceTab) :
    Calls Tryd.prog 46 #[.string s] w fun e w' =>
      e = .returned (.slice (some ⟨w.heap.size, 0, none⟩) (Lib.fields s.data.toList).length (Lib.fields s.data.toList).length) ∧ w' = w.alloc (.cells ((Lib.fields s.data.toList).map fun l => Value.string ⟨l.toArray⟩).toArray 9) := Any.strings_Fields Tryd.lays157 (by kernel_rfl) (by kernel_rfl) s w hs hascii htab
end Go.Proofs

namespace Go.Proofs.YtbmdmoknnlhdoaaDoor
open Go Go.Am Go.Sp Go.Lib Go.RowKit
set_option maxRecDepth 100000

theorem mixed : Tryd.prog.follows .mixedOrders = true := by kernel_rfl
def ow0 : FuncId → Option (List Bool) := fun _ => none
def owF : FuncId → Option (List Bool) := fun f => bif Nat.beq f 46 then some [false] else none
def owR (n : Nat) : FuncId → Option (List Bool) := fun f => bif Nat.beq f 999999999 then some (List.replicate n true) else owF f
def owM (n : Nat) : FuncId → Option (List Bool) := fun f => bif Nat.beq f 47 then some [true, false] else owR n f
structure GP where
  mx : Int
  e1 : Nat
  e2 : Nat
def gl0 (m : GP) : Globs := fun g =>
  bif Nat.beq g 0 then some (256, fun j => .int .u8 (asciiSpaceTab.getD j 0)) else
  bif Nat.beq g 1 then some (1, fun _ => .int .i64 m.mx) else
  bif Nat.beq g 5 then some (20, fun j => .int .u64 (pow10Tab.getD j 0)) else
  bif Nat.beq g 6 then some (1, fun _ => .ifc m.e1 .junk) else
  bif Nat.beq g 7 then some (1, fun _ => .ifc m.e2 .junk) else none
theorem gl_max (m : GP) : gl0 m 1 = some (1, fun _ => .int .i64 m.mx) := rfl
theorem gl_sp (m : GP) : gl0 m 0 = some (256, fun j => .int .u8 (asciiSpaceTab.getD j 0)) := rfl
theorem gl_pow (m : GP) : gl0 m 5 = some (20, fun j => .int .u64 (pow10Tab.getD j 0)) := rfl
theorem gl_syn (m : GP) : gl0 m 6 = some (1, fun _ => .ifc m.e1 .junk) := rfl
theorem gl_rng (m : GP) : gl0 m 7 = some (1, fun _ => .ifc m.e2 .junk) := rfl

theorem split_c (m : GP) (c : UInt8) (s : Str) (hs : s.length < 4294967281) : Pure Tryd.prog (gl0 m) 16 [.str (bs s), .str (bs [c])] (.isl 1 (spl c s).length fun i _ => .str (bs ((spl c s).getD i []))) := by
  refine pure_of ⟨_, _, Tryd.func16, rfl, by kernel_rfl⟩ fun β w vs hf hg ha => ?_
  obtain ⟨u, v, rfl, h1, h2⟩ := rels2 ha
  rw [rel_str_inv h1, rel_str_inv h2]
  refine (Tryd.strings_Split (bs s) (bs [c]) m.mx w hs (glob_cell (hg _ _ _ (gl_max m)) (by decide) rfl) (Nat.le_refl 1)).mono fun e w' hh => ?_
  obtain ⟨he, rfl⟩ := hh
  have hl := splitB_all (bs [c]) (Nat.le_refl 1) 0 (countB (bs s) (bs [c])) (bs s) rfl
  rw [← hl] at he
  have hm := splitB_spl c (bs s)
  have e2 : (splitB (bs [c]) 0 (countB (bs s) (bs [c])) (bs s)).length = (spl c s).length := by rw [← bs_data s, ← hm, List.length_map]
  refine ⟨_, he, alloc_below, ?_⟩
  have r := rel_strs (hf _ (Nat.le_refl _)) (splitB (bs [c]) 0 (countB (bs s) (bs [c])) (bs s)) 9
  have e3 : (fun (i _ : Nat) => AV.str ((splitB (bs [c]) 0 (countB (bs s) (bs [c])) (bs s)).getD i .empty)) = fun i _ => .str (bs ((spl c s).getD i [])) := by
    funext i _
    rw [← bs_data s, ← hm]
    simp only [List.getD_eq_getElem?_getD, List.getElem?_map]
    cases (splitB (bs [c]) 0 (countB (bs s) (bs [c])) (bs s))[i]? with
    | none => rfl
    | some x => rfl
  rw [e3, e2] at r
  rw [e2]
  exact r

theorem itoa_c (m : GP) (n : Int) (hn : -9223372036854775808 ≤ n ∧ n ≤ 9223372036854775807) : Pure Tryd.prog (gl0 m) 48 [.int .i64 n] (.str (bs (itoa n))) := by
  refine pure_of ⟨_, _, Tryd.func48, rfl, by kernel_rfl⟩ fun β w vs hf hg ha => ?_
  obtain ⟨u, rfl, h1⟩ := rels1 ha
  rw [rel_int_inv h1]
  refine (Tryd.strconv_Itoa n hn.1 hn.2 w (glob_tab (by kernel_rfl) (hg _ _ _ (gl_pow m)))).mono fun e w' hh => ?_
  obtain ⟨he, k, os, rfl⟩ := hh
  exact ⟨_, he, ⟨rfl, rfl, rfl, by simp [Sort.grow], fun k hk => (Sort.heap_grow_old (w.drewN k) os hk)⟩, .str⟩

theorem join_c (m : GP) (ws : List Str) (h : (joinS ws).length ≤ 140737488355328) (hn : ws.length ≤ 140737488355328) : Pure Tryd.prog (gl0 m) 27 [.isl 1 ws.length fun i _ => .str (bs (ws.getD i [])), .str (bs [32])] (.str (bs (joinS ws))) := by
  refine pure_of ⟨_, _, Tryd.func27, rfl, by kernel_rfl⟩ fun β w vs hf hg ha => ?_
  obtain ⟨u, v, rfl, h1, h2⟩ := rels2 ha
  obtain ⟨a, cap, rfl, hcap, _, hk⟩ := rel_isl_inv h1
  rw [rel_str_inv h2]
  cases ws with
  | nil =>
    refine (Tryd.strings_Join_none a cap (bs [32]) w).mono fun e w' hh => ?_
    obtain ⟨he, rfl⟩ := hh
    exact ⟨_, he, Below.refl _ _, .str⟩
  | cons x xs =>
    obtain ⟨b, off, vals, rfl, _, _, hc, hr, _⟩ := hk (Nat.succ_pos _)
    have hcell : ∀ (j : Nat) y, ((x :: xs).map bs)[j]? = some y → w.cell? ⟨b, off + j, none⟩ = some (.string y) := fun j y hj => by
      rw [List.getElem?_map, Option.map_eq_some_iff] at hj
      obtain ⟨z, hz, rfl⟩ := hj
      have hlt := (List.getElem?_eq_some_iff.1 hz).1
      have := hc j 0 hlt (by decide)
      rw [Nat.mul_one, Nat.add_zero] at this
      rw [this, rel_str_inv (hr j 0 hlt (by decide)), List.getD_eq_getElem?_getD, hz]; rfl
    have e1 : ((x :: xs).map bs).map (·.data.toList) = x :: xs := by rw [List.map_map]; exact List.map_id _
    have := Tryd.strings_Join b off cap ((x :: xs).map bs) (bs [32]) w hcell (lt_of_cell? (hcell 0 _ rfl)) (by simpa using hn) (by simpa using hcap) (by rw [e1]; exact h)
    rw [e1, List.length_map] at this
    refine this.mono fun e w' hh => ?_
    obtain ⟨he, hb⟩ := hh
    exact ⟨_, he, hb, .str⟩

theorem atoi_c (m : GP) (s : Str) (n : Int) (hs : s.length ≤ 281474976710656) (h : atoiAll s = .ok n) : Pure Tryd.prog (gl0 m) 61 [.str (bs s)] (.tup [.int .i64 n, .raw .nilIface]) := by
  refine pure_of ⟨_, _, Tryd.func61, rfl, by kernel_rfl⟩ fun β w vs hf hg ha => ?_
  obtain ⟨u, rfl, h1⟩ := rels1 ha
  rw [rel_str_inv h1]
  refine (Tryd.strconv_Atoi_ok (bs s) (Nat.le_trans hs (by decide)) n h w).mono fun e w' hh => ?_
  obtain ⟨he, hw⟩ := hh
  refine ⟨_, he, ?_, .tup rfl fun j a v hu hv => ?_⟩
  · rcases hw with rfl | ⟨t, rfl⟩
    · exact Below.refl _ _
    · exact ⟨rfl, rfl, rfl, by rw [bytesWorld_size]; omega, fun k hk => bytesWorld_at_old w 5 t k hk⟩
  · match j, hu, hv with
    | 0, hu, hv => cases hu; cases hv; exact .int
    | 1, hu, hv => cases hu; cases hv; exact .raw (fun cs h => by cases h)

theorem atoi_s (m : GP) (s : Str) (hs : s.length ≤ 281474976710656) (hc : atoiAll s = NumEnd.syntax) : Pure Tryd.prog (gl0 m) 61 [.str (bs s)] (.tup [.int .i64 0, .ifc 126 .junk]) := by
  refine pure_of ⟨_, _, Tryd.func61, rfl, by kernel_rfl⟩ fun β w vs hf hg ha => ?_
  obtain ⟨u, rfl, h1⟩ := rels1 ha
  rw [rel_str_inv h1]
  obtain ⟨v, hv⟩ := glob_ifc (hg _ _ _ (gl_syn m)) (by decide) rfl
  refine (Tryd.strconv_Atoi_syntax (bs s) hs hc _ w hv (.inr ⟨_, _, rfl⟩)).mono fun e w' hh => ?_
  obtain ⟨N, he, _, _, hb⟩ := hh
  refine ⟨_, he, hb, .tup rfl fun j a v hu hv => ?_⟩
  match j, hu, hv with
  | 0, hu, hv => cases hu; cases hv; exact .int
  | 1, hu, hv => cases hu; cases hv; exact .ifc .junk

theorem atoi_r (m : GP) (s : Str) (hs : s.length ≤ 281474976710656) (hc : atoiAll s = .range) : Pure Tryd.prog (gl0 m) 61 [.str (bs s)] (.tup [.int .i64 (atoiSat s), .ifc 126 .junk]) := by
  refine pure_of ⟨_, _, Tryd.func61, rfl, by kernel_rfl⟩ fun β w vs hf hg ha => ?_
  obtain ⟨u, rfl, h1⟩ := rels1 ha
  rw [rel_str_inv h1]
  obtain ⟨v, hv⟩ := glob_ifc (hg _ _ _ (gl_rng m)) (by decide) rfl
  refine (Tryd.strconv_Atoi_range (bs s) hs hc _ w hv (.inr ⟨_, _, rfl⟩)).mono fun e w' hh => ?_
  obtain ⟨N, he, _, _, hb⟩ := hh
  refine ⟨_, he, hb, .tup rfl fun j a v hu hv => ?_⟩
  match j, hu, hv with
  | 0, hu, hv => cases hu; cases hv; exact .int
  | 1, hu, hv => cases hu; cases hv; exact .ifc .junk

theorem fields_g (m : GP) (s : Str) (l : List Str) (R : Rep) (hs : s.length < 4294967281) (ha : ∀ b ∈ s, b.toNat < 128) (hl : fields s = l) (hR : ∀ i, i < l.length → R.at i 0 = .str (bs (l.getD i []))) : Gives Tryd.prog (gl0 m) 46 [] [.str (bs s)] (.osl 0 1 0 l.length) [some ⟨1, l.length, true, R⟩] := by
  subst hl
  have k := gives_strs (l := (fields s).map bs) (R := R) (gl := gl0 m) (args := [.str (bs s)]) ⟨_, _, Tryd.func46, rfl, by kernel_rfl⟩ (fun i hi => by
    rw [List.length_map] at hi
    rw [hR i hi]
    simp [List.getD_eq_getElem?_getD, hi]) fun β w vs hg hh => by
    obtain ⟨u, rfl, h1⟩ := rels1 hh
    rw [rel_str_inv h1]
    refine (Tryd.strings_Fields (bs s) w hs (fun j b hj => ha b (List.mem_of_getElem? hj)) (glob_tab (by kernel_rfl) (hg _ _ _ (gl_sp m)))).mono fun e w' hh => ?_
    obtain ⟨he, rfl⟩ := hh
    exact ⟨by rw [List.length_map]; exact he, _, by rw [List.map_map]; rfl⟩
  rw [List.length_map] at k
  exact k

end Go.Proofs.YtbmdmoknnlhdoaaDoor

namespace Go.Proofs.YtbmdmoknnlhdoaaDoor
open Go Go.Am Go.Sp Go.Lib
set_option maxRecDepth 100000

theorem num_is {s : Str} {n : Int} (h : atoiAll s = .ok n) : (decide (n ≥ 0) && decide (n ≤ 1099511627776) && decide (itoa n = s)) = (numC s).isSome := by
  unfold numC
  rw [h]
  simp only
  by_cases c : 0 ≤ n ∧ n ≤ 1099511627776 ∧ itoa n = s
  · rw [if_pos c, decide_eq_true c.1, decide_eq_true c.2.1, decide_eq_true c.2.2]; rfl
  · rw [if_neg c]
    cases hd : (decide (n ≥ 0) && decide (n ≤ 1099511627776) && decide (itoa n = s)) with
    | false => rfl
    | true => simp only [Bool.and_eq_true, decide_eq_true_eq] at hd; exact absurd ⟨hd.1.1, hd.1.2, hd.2⟩ c
theorem num_no {s : Str} (h : ∀ n, atoiAll s ≠ .ok n) : (numC s).isSome = false := by
  unfold numC
  split
  · rename_i n e; exact absurd e (h n)
  · rfl

theorem number_1 (m : GP) (s : Str) (n : Int) (hs : s.length ≤ 281474976710656) (h : atoiAll s = .ok n) : Pure Tryd.prog (gl0 m) 49 [.str (bs s)] (.tup [.int .i64 n, .bool (numC s).isSome]) := by
  have c1 := atoi_c m s n hs h
  have c2 := itoa_c m n (atoiAll_bounds h)
  refine pure_sk (own := ow0) Tryd.func49 (by kernel_rfl) mixed (by kernel_rfl)
    (.dc (true) 61 ([AV.str (bs s)]) (AV.tup [Zi n, AV.raw Value.nilIface]) (.sc ((decide (n ≥ (0 : Int)) && decide (n ≤ (1099511627776 : Int))) == true) 48 ([Zi n]) (AV.str (bs (itoa n))) (.out (AV.tup [Zi n, AV.bool (decide (n ≥ (0 : Int)) && decide (n ≤ (1099511627776 : Int)) && ByteArray.toList (bs (itoa n)) == ByteArray.toList (bs s))]) [] (AV.tup [Zi n, AV.bool (Option.isSome (numC s))]) [])))
    (by kernel_rfl) ?_
  refine k_dc (c1) ?_
  refine k_scg (fun h1 => c2) ?_
  exact k_out (Ent.of_eq (by rw [eqS, num_is h]))

theorem number_2 (m : GP) (s : Str) (k : Int) (h : ∀ n, atoiAll s ≠ .ok n) (c1 : Pure Tryd.prog (gl0 m) 61 [.str (bs s)] (.tup [.int .i64 k, .ifc 126 .junk])) (hk : -9223372036854775808 ≤ k ∧ k ≤ 9223372036854775807) : Pure Tryd.prog (gl0 m) 49 [.str (bs s)] (.tup [.int .i64 k, .bool (numC s).isSome]) := by
  have c2 := itoa_c m k hk
  refine pure_sk (own := ow0) Tryd.func49 (by kernel_rfl) mixed (by kernel_rfl)
    (.dc (true) 61 ([AV.str (bs s)]) (AV.tup [Zi k, AV.ifc (126 : TypeId) AV.junk]) (.sc (false == true) 48 ([Zi k]) (AV.str (bs (itoa k))) (.out (AV.tup [Zi k, AV.bool false]) [] (AV.tup [Zi k, AV.bool (Option.isSome (numC s))]) [])))
    (by kernel_rfl) ?_
  refine k_dc (c1) ?_
  refine k_scg (fun h1 => c2) ?_
  exact k_out (Ent.of_eq (by rw [num_no h]))

theorem number_c (m : GP) (s : Str) (hs : s.length ≤ 281474976710656) : Pure Tryd.prog (gl0 m) 49 [.str (bs s)] (.tup [.int .i64 (numVal s), .bool (numC s).isSome]) := by
  have hb := atoiSat_bounds s
  unfold numVal
  rcases hc : atoiAll s with n | _ | _
  · exact number_1 m s n hs hc
  · exact number_2 m s 0 (fun n e => by rw [hc] at e; cases e) (atoi_s m s hs hc) (by decide)
  · exact number_2 m s (atoiSat s) (fun n e => by rw [hc] at e; cases e) (atoi_r m s hs hc) hb

theorem field_1 (m : GP) (c0 c1 c2 c3 : Int) (c4 : Bool) : Gives Tryd.prog (gl0 m) 47 [⟨5, 1, true, .lst [[.int .i64 c0, .int .i64 c1, .int .i64 c2, .int .i64 c3, .bool c4]]⟩] [.own 0 5 0 0 5, .str (bs wWho)] (.own 0 5 0 1 1) [some ⟨5, 1, true, .lst [[.int .i64 c0, .int .i64 c1, .int .i64 c2, .int .i64 c3, .bool c4]]⟩] := by
  refine gives_sk (own := ow0) (hand := true) Tryd.func47 (by kernel_rfl) mixed (by kernel_rfl)
    (.tt (.out (AV.own (0) (5) (0) (1) (1)) ([some { es := 5, n := 1, mu := true, f := Rep.lst [[Zi c0, Zi c1, Zi c2, Zi c3, AV.bool c4]] }]) (AV.own (0 : Nat) (5 : Nat) (0 : Nat) (1 : Nat) (1 : Nat)) ([some { es := (5 : Nat), n := (1 : Nat), mu := true, f := Rep.lst [[Zi c0, Zi c1, Zi c2, Zi c3, AV.bool c4]] }])))
    (by kernel_rfl) ?_
  refine k_tt ?_
  exact k_outg (Ent.of_eq (by first | rfl | simp_all)) (by repeat' (first | exact trivial | (first | exact ObEnt.refl _ | exact ObEnt.junk | exact ObEnt.zero | exact ObEnt.push rfl rfl | exact ObEnt.pushRow rfl | exact ObEnt.len (by omega) | exact ObEnt.row (by repeat' (first | exact trivial | (first | exact Ent.refl _ | exact inc_ent (by omega) | exact Ent.nil rfl | exact Ent.of_eq (congrArg (AV.osl _ _ _) (by first | omega | (dsimp only; omega))) | exact Ent.of_eq (congrArg (AV.int _) (by first | omega | (dsimp only; omega)))) | refine And.intro ?_ ?_))) | refine And.intro ?_ ?_))

theorem field_2 (m : GP) (c0 c1 c2 c3 : Int) (c4 : Bool) : Gives Tryd.prog (gl0 m) 47 [⟨5, 1, true, .lst [[.int .i64 c0, .int .i64 c1, .int .i64 c2, .int .i64 c3, .bool c4]]⟩] [.own 0 5 0 0 5, .str (bs wWhom)] (.own 0 5 0 2 1) [some ⟨5, 1, true, .lst [[.int .i64 c0, .int .i64 c1, .int .i64 c2, .int .i64 c3, .bool c4]]⟩] := by
  refine gives_sk (own := ow0) (hand := true) Tryd.func47 (by kernel_rfl) mixed (by kernel_rfl)
    (.ff (.tt (.out (AV.own (0) (5) (0) (2) (1)) ([some { es := 5, n := 1, mu := true, f := Rep.lst [[Zi c0, Zi c1, Zi c2, Zi c3, AV.bool c4]] }]) (AV.own (0 : Nat) (5 : Nat) (0 : Nat) (2 : Nat) (1 : Nat)) ([some { es := (5 : Nat), n := (1 : Nat), mu := true, f := Rep.lst [[Zi c0, Zi c1, Zi c2, Zi c3, AV.bool c4]] }]))))
    (by kernel_rfl) ?_
  refine k_ff ?_
  refine k_tt ?_
  exact k_outg (Ent.of_eq (by first | rfl | simp_all)) (by repeat' (first | exact trivial | (first | exact ObEnt.refl _ | exact ObEnt.junk | exact ObEnt.zero | exact ObEnt.push rfl rfl | exact ObEnt.pushRow rfl | exact ObEnt.len (by omega) | exact ObEnt.row (by repeat' (first | exact trivial | (first | exact Ent.refl _ | exact inc_ent (by omega) | exact Ent.nil rfl | exact Ent.of_eq (congrArg (AV.osl _ _ _) (by first | omega | (dsimp only; omega))) | exact Ent.of_eq (congrArg (AV.int _) (by first | omega | (dsimp only; omega)))) | refine And.intro ?_ ?_))) | refine And.intro ?_ ?_))

theorem field_3 (m : GP) (c0 c1 c2 c3 : Int) (c4 : Bool) : Gives Tryd.prog (gl0 m) 47 [⟨5, 1, true, .lst [[.int .i64 c0, .int .i64 c1, .int .i64 c2, .int .i64 c3, .bool c4]]⟩] [.own 0 5 0 0 5, .str (bs wAmount)] (.own 0 5 0 3 1) [some ⟨5, 1, true, .lst [[.int .i64 c0, .int .i64 c1, .int .i64 c2, .int .i64 c3, .bool c4]]⟩] := by
  refine gives_sk (own := ow0) (hand := true) Tryd.func47 (by kernel_rfl) mixed (by kernel_rfl)
    (.ff (.ff (.tt (.out (AV.own (0) (5) (0) (3) (1)) ([some { es := 5, n := 1, mu := true, f := Rep.lst [[Zi c0, Zi c1, Zi c2, Zi c3, AV.bool c4]] }]) (AV.own (0 : Nat) (5 : Nat) (0 : Nat) (3 : Nat) (1 : Nat)) ([some { es := (5 : Nat), n := (1 : Nat), mu := true, f := Rep.lst [[Zi c0, Zi c1, Zi c2, Zi c3, AV.bool c4]] }])))))
    (by kernel_rfl) ?_
  refine k_ff ?_
  refine k_ff ?_
  refine k_tt ?_
  exact k_outg (Ent.of_eq (by first | rfl | simp_all)) (by repeat' (first | exact trivial | (first | exact ObEnt.refl _ | exact ObEnt.junk | exact ObEnt.zero | exact ObEnt.push rfl rfl | exact ObEnt.pushRow rfl | exact ObEnt.len (by omega) | exact ObEnt.row (by repeat' (first | exact trivial | (first | exact Ent.refl _ | exact inc_ent (by omega) | exact Ent.nil rfl | exact Ent.of_eq (congrArg (AV.osl _ _ _) (by first | omega | (dsimp only; omega))) | exact Ent.of_eq (congrArg (AV.int _) (by first | omega | (dsimp only; omega)))) | refine And.intro ?_ ?_))) | refine And.intro ?_ ?_))

theorem field_0 (m : GP) (c0 c1 c2 c3 : Int) (c4 : Bool) (w : Str) (n1 : w ≠ wWho) (n2 : w ≠ wWhom) (n3 : w ≠ wAmount) : Gives Tryd.prog (gl0 m) 47 [⟨5, 1, true, .lst [[.int .i64 c0, .int .i64 c1, .int .i64 c2, .int .i64 c3, .bool c4]]⟩] [.own 0 5 0 0 5, .str (bs w)] (.raw (.pointer none)) [some ⟨5, 1, true, .lst [[.int .i64 c0, .int .i64 c1, .int .i64 c2, .int .i64 c3, .bool c4]]⟩] := by
  refine gives_sk (own := ow0) (hand := true) Tryd.func47 (by kernel_rfl) mixed (by kernel_rfl)
    (.br (ByteArray.toList (bs w) == ByteArray.toList { data := #[(87 : UInt8), (72 : UInt8), (79 : UInt8)] }) (.out (AV.own (0) (5) (0) (1) (1)) ([some { es := 5, n := 1, mu := true, f := Rep.lst [[Zi c0, Zi c1, Zi c2, Zi c3, AV.bool c4]] }]) (AV.raw (Value.pointer none)) ([some { es := (5 : Nat), n := (1 : Nat), mu := true, f := Rep.lst [[Zi c0, Zi c1, Zi c2, Zi c3, AV.bool c4]] }])) (.br (ByteArray.toList (bs w) == ByteArray.toList { data := #[(87 : UInt8), (72 : UInt8), (79 : UInt8), (77 : UInt8)] }) (.out (AV.own (0) (5) (0) (2) (1)) ([some { es := 5, n := 1, mu := true, f := Rep.lst [[Zi c0, Zi c1, Zi c2, Zi c3, AV.bool c4]] }]) (AV.raw (Value.pointer none)) ([some { es := (5 : Nat), n := (1 : Nat), mu := true, f := Rep.lst [[Zi c0, Zi c1, Zi c2, Zi c3, AV.bool c4]] }])) (.br (ByteArray.toList (bs w) == ByteArray.toList { data := #[(65 : UInt8), (77 : UInt8), (79 : UInt8), (85 : UInt8), (78 : UInt8), (84 : UInt8)] }) (.out (AV.own (0) (5) (0) (3) (1)) ([some { es := 5, n := 1, mu := true, f := Rep.lst [[Zi c0, Zi c1, Zi c2, Zi c3, AV.bool c4]] }]) (AV.raw (Value.pointer none)) ([some { es := (5 : Nat), n := (1 : Nat), mu := true, f := Rep.lst [[Zi c0, Zi c1, Zi c2, Zi c3, AV.bool c4]] }])) (.out (AV.raw (Value.pointer none)) ([some { es := 5, n := 1, mu := true, f := Rep.lst [[Zi c0, Zi c1, Zi c2, Zi c3, AV.bool c4]] }]) (AV.raw (Value.pointer none)) ([some { es := (5 : Nat), n := (1 : Nat), mu := true, f := Rep.lst [[Zi c0, Zi c1, Zi c2, Zi c3, AV.bool c4]] }])))))
    (by kernel_rfl) ?_
  refine k_br (fun h0 => ?_) (fun h0 => ?_)
  · have g0 := cnd_id_t h0
    exact k_outg ((by exfalso; rw [eqS] at h0; exact n1 (of_decide_eq_true h0))) (by repeat' (first | exact trivial | (first | exact ObEnt.refl _ | exact ObEnt.junk | exact ObEnt.zero | exact ObEnt.push rfl rfl | exact ObEnt.pushRow rfl | exact ObEnt.len (by omega) | exact ObEnt.row (by repeat' (first | exact trivial | (first | exact Ent.refl _ | exact inc_ent (by omega) | exact Ent.nil rfl | exact Ent.of_eq (congrArg (AV.osl _ _ _) (by first | omega | (dsimp only; omega))) | exact Ent.of_eq (congrArg (AV.int _) (by first | omega | (dsimp only; omega)))) | refine And.intro ?_ ?_))) | refine And.intro ?_ ?_))
  · have g0 := cnd_id_f h0
    refine k_br (fun h2 => ?_) (fun h2 => ?_)
    · have g2 := cnd_id_t h2
      exact k_outg ((by exfalso; rw [eqS] at h2; exact n2 (of_decide_eq_true h2))) (by repeat' (first | exact trivial | (first | exact ObEnt.refl _ | exact ObEnt.junk | exact ObEnt.zero | exact ObEnt.push rfl rfl | exact ObEnt.pushRow rfl | exact ObEnt.len (by omega) | exact ObEnt.row (by repeat' (first | exact trivial | (first | exact Ent.refl _ | exact inc_ent (by omega) | exact Ent.nil rfl | exact Ent.of_eq (congrArg (AV.osl _ _ _) (by first | omega | (dsimp only; omega))) | exact Ent.of_eq (congrArg (AV.int _) (by first | omega | (dsimp only; omega)))) | refine And.intro ?_ ?_))) | refine And.intro ?_ ?_))
    · have g2 := cnd_id_f h2
      refine k_br (fun h4 => ?_) (fun h4 => ?_)
      · have g4 := cnd_id_t h4
        exact k_outg ((by exfalso; rw [eqS] at h4; exact n3 (of_decide_eq_true h4))) (by repeat' (first | exact trivial | (first | exact ObEnt.refl _ | exact ObEnt.junk | exact ObEnt.zero | exact ObEnt.push rfl rfl | exact ObEnt.pushRow rfl | exact ObEnt.len (by omega) | exact ObEnt.row (by repeat' (first | exact trivial | (first | exact Ent.refl _ | exact inc_ent (by omega) | exact Ent.nil rfl | exact Ent.of_eq (congrArg (AV.osl _ _ _) (by first | omega | (dsimp only; omega))) | exact Ent.of_eq (congrArg (AV.int _) (by first | omega | (dsimp only; omega)))) | refine And.intro ?_ ?_))) | refine And.intro ?_ ?_))
      · have g4 := cnd_id_f h4
        exact k_outg (Ent.of_eq (by first | rfl | simp_all)) (by repeat' (first | exact trivial | (first | exact ObEnt.refl _ | exact ObEnt.junk | exact ObEnt.zero | exact ObEnt.push rfl rfl | exact ObEnt.pushRow rfl | exact ObEnt.len (by omega) | exact ObEnt.row (by repeat' (first | exact trivial | (first | exact Ent.refl _ | exact inc_ent (by omega) | exact Ent.nil rfl | exact Ent.of_eq (congrArg (AV.osl _ _ _) (by first | omega | (dsimp only; omega))) | exact Ent.of_eq (congrArg (AV.int _) (by first | omega | (dsimp only; omega)))) | refine And.intro ?_ ?_))) | refine And.intro ?_ ?_))

end Go.Proofs.YtbmdmoknnlhdoaaDoor
