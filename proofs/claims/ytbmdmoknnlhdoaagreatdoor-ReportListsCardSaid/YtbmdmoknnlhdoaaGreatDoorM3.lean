/- Part of the proof: EnLaw, SpMath, Ari, Ari2, Tabs, Prime, Grp, WZ0, EnOpen, EnRow, EnGlob, EnLib, Cns, Cns2, Cns3, Cns4, Cns5, Bst, Cns6, EnArg, Cns7, Cns8, Cns9, Cns10, Cns11, Dec. -/
import Derived.Test.YtbmdmoknnlhdoaaGreatDoorM2
import Derived.Test.YtbmdmoknnlhdoaaGreatDoorProg
import Derived.ProofKit
import Derived.Deep.Slices
import Derived.OpenShut
import Derived.FnData
import Derived.MakeChecks
import Derived.Lib.LaidTab
import Derived.Lib.ItoaMem
import Derived.Lib.AtoiAllCases
import Derived.Lib.SplitLaws
import Derived.Lib.Replace
import Derived.Lib.Fields
import Derived.Lib.Join
namespace Go.Am
open Go.RowKit

theorem Ent.junk {os : List (Option Ob)} (a : AV) : Ent os a .junk := fun _ _ _ _ _ => .junk

theorem Ent.nn {os : List (Option Ob)} {a b : AV} (h : Ent os a b) : Ent os (.nn a) b := fun _ _ _ hh hr => by
  cases hr with | nn h' => exact h _ _ _ hh h'

theorem Ent.isl {os : List (Option Ob)} {es n : Nat} {f g : Nat → Nat → AV} (h : ∀ i j, i < n → j < es → f i j = g i j) : Ent os (.isl es n f) (.isl es n g) := fun _ _ _ _ hr => by
  cases hr with
  | isl vals he hcap hb hc ho hr hcl => exact .isl vals he hcap hb hc ho (fun i j hi hj => by grind) (fun i j hi hj => by grind)
  | isl0 h' => exact .isl0 h'

theorem Ent.islN {os : List (Option Ob)} {es n n' : Nat} {f g : Nat → Nat → AV} (hn : n = n') (h : ∀ i j, i < n → j < es → f i j = g i j) : Ent os (.isl es n f) (.isl es n' g) := by grind [Ent.isl]

theorem ObEnt.refl {os : List (Option Ob)} (o : Ob) : ObEnt os o o := ⟨by rw [tyc_refl], rfl, rfl, fun _ _ _ _ => Ent.refl _⟩
theorem ObsEnt.refl {os : List (Option Ob)} : ∀ l : List (Option Ob), ObsEnt os l l
  | [] => trivial
  | none :: l => ObsEnt.refl l
  | some o :: l => ⟨.refl o, ObsEnt.refl l⟩

theorem EntL.refl {os : List (Option Ob)} : ∀ l : List AV, EntL os l l
  | [] => trivial
  | a :: l => ⟨Ent.refl a, EntL.refl l⟩

theorem Ent.atL {os : List (Option Ob)} {l l' : List AV} (h : EntL os l l') (j : Nat) : Ent os (atL l j) (atL l' j) := by
  obtain ⟨h1, h2⟩ := h.spec
  grind [Am.atL,List.getElem?_eq_getElem,List.getElem?_eq_none,Ent.refl]

theorem ObEnt.row {os : List (Option Ob)} {es : Nat} {mu : Bool} {l l' : List AV} (h : EntL os l l') : ObEnt os ⟨es, 1, mu, .lst [l]⟩ ⟨es, 1, mu, .lst [l']⟩ := ⟨rfl, rfl, rfl, fun i j hi _ => by
  have hi : i < 1 := hi
  obtain rfl : i = 0 := by omega
  exact Ent.atL h j⟩
theorem ObEnt.junk {os : List (Option Ob)} {es n : Nat} {mu : Bool} {f : Rep} : ObEnt os ⟨es, n, mu, f⟩ ⟨es, n, mu, .fn fun _ _ => .junk⟩ := ⟨rfl, rfl, rfl, fun _ _ _ _ => Ent.junk _⟩

theorem ObEnt.zero {os : List (Option Ob)} {es : Nat} {mu : Bool} {f g : Rep} (ht : tyc f g = true := by rfl) : ObEnt os ⟨es, 0, mu, f⟩ ⟨es, 0, mu, g⟩ := ⟨congrArg (Prod.mk es) ht, rfl, rfl, fun i _ hi _ => by grind⟩

theorem atL_map_range {es j : Nat} {g : Nat → AV} (hj : j < es) : Am.atL ((List.range es).map g) j = g j := by grind [Am.atL,List.getElem?_range]

theorem ObEnt.len {os : List (Option Ob)} {es n n' : Nat} {mu : Bool} {f : Rep} (h : n = n') : ObEnt os ⟨es, n, mu, f⟩ ⟨es, n', mu, f⟩ := by grind [refl]

theorem ObEnt.push {os : List (Option Ob)} {es x x' : Nat} {mu : Bool} {k : IntKind} {f : Nat → Nat → Int} {l : List AV} (h : l = (List.range es).map (fun j => .int k (f x j))) (hx : x' = x + 1) :
    ObEnt os ⟨es, x + 1, mu, .fn fun i j => .int k (bif Nat.blt i x then f i j else intOfAV (Am.atL l j))⟩ ⟨es, x', mu, .fn fun i j => .int k (f i j)⟩ := by
  subst hx
  refine ⟨rfl, rfl, rfl, fun i j hi hj => Ent.of_eq ?_⟩
  have hi : i < x + 1 := hi
  have hj : j < es := hj
  show AV.int k _ = AV.int k _
  cases hb : Nat.blt i x with
  | true => rfl
  | false =>
    have : i = x := by grind [Nat.blt_eq]
    subst this
    rw [h, atL_map_range hj]
    rfl

theorem ObEnt.cat {os : List (Option Ob)} {es n m n' : Nat} {mu : Bool} {f g h : Rep} (hn : n' = n + m) (h1 : ∀ i j, i < n → j < es → Ent os (f i j) (h i j)) (h2 : ∀ i j, i < m → j < es → Ent os (g i j) (h (n + i) j)) (ht : tyc (.cat n f g) h = true := by rfl) :
    ObEnt os ⟨es, n + m, mu, .cat n f g⟩ ⟨es, n', mu, h⟩ := by
  subst hn
  refine ⟨congrArg (Prod.mk es) ht, rfl, rfl, fun i j hi hj => ?_⟩
  have hi : i < n + m := hi
  show Ent os (mixA (Nat.blt i n) (f.at i j) (g.at (i - n) j)) (h i j)
  grind [Nat.blt,n,mixA_tt,Nat.blt_eq,mixA_ff,Nat.le_of_not_lt]

theorem ObEnt.put {os : List (Option Ob)} {es n k : Nat} {mu : Bool} {x : List AV} {f h : Rep} (h1 : ∀ j, k < n → j < es → Ent os (Am.atL x j) (h k j)) (h2 : ∀ i j, i < n → i ≠ k → j < es → Ent os (f i j) (h i j)) (ht : tyc (.put k x f) h = true := by rfl) :
    ObEnt os ⟨es, n, mu, .put k x f⟩ ⟨es, n, mu, h⟩ := by
  refine ⟨congrArg (Prod.mk es) ht, rfl, rfl, fun i j hi hj => ?_⟩
  have hi : i < n := hi
  show Ent os (mixA (Nat.beq i k) (Am.atL x j) (f.at i j)) (h i j)
  grind [Nat.beq,mixA_tt,Nat.eq_of_beq_eq_true,mixA_ff,Nat.beq_refl]

theorem ObEnt.catRow {os : List (Option Ob)} {es n n' : Nat} {mu : Bool} {c c' : Nat → List AV} {x : List AV} (hn : n' = n + 1) (hc : ∀ i, i < n → EntL os (c i) (c' i)) (hx : EntL os x (c' n)) :
    ObEnt os ⟨es, n + 1, mu, .cat n (.row c) (.lst [x])⟩ ⟨es, n', mu, .row c'⟩ :=
  ObEnt.cat hn (fun i j hi _ => Ent.atL (hc i hi) j) (fun i j hi _ => by
    obtain rfl : i = 0 := by omega
    exact Ent.atL hx j)
theorem ObEnt.pushRow {os : List (Option Ob)} {es n n' : Nat} {mu : Bool} {c : Nat → List AV} (hn : n' = n + 1) : ObEnt os ⟨es, n + 1, mu, .cat n (.row c) (.lst [c n])⟩ ⟨es, n', mu, .row c⟩ :=
  ObEnt.catRow hn (fun _ _ => EntL.refl _) (EntL.refl _)

def ilF (k : IntKind) (l : List Int) : Nat → Nat → AV := fun i _ => .int k (l.getD i 0)
abbrev il (k : IntKind) (l : List Int) : AV := .isl 1 l.length (ilF k l)
abbrev ilO (k : IntKind) (l : List Int) : Option Ob := some ⟨1, l.length, true, .fn (ilF k l)⟩

theorem Ent.nsl {os : List (Option Ob)} {es : Nat} {f : Nat → Nat → AV} : Ent os .nsl (.isl es 0 f) := fun _ _ _ _ hr => by
  cases hr; exact .isl0 (fun _ => rfl)

theorem Ent.agg {os : List (Option Ob)} {l l' : List AV} (h : EntL os l l') : Ent os (.agg l) (.agg l') := fun _ _ _ hh hr => by
  obtain ⟨h1, h2⟩ := h.spec
  obtain ⟨vs, rfl, hl, hr⟩ := rel_agg_inv hr
  refine .agg (by omega) fun j u x hu hx => ?_
  have hj : j < l.length := by grind
  exact h2 j l[j] u (by simp) hu _ _ _ hh (hr j _ _ (by simp) hx)

theorem Ent.tup {os : List (Option Ob)} {l l' : List AV} (h : EntL os l l') : Ent os (.tup l) (.tup l') := fun _ _ _ hh hr => by
  obtain ⟨h1, h2⟩ := h.spec
  obtain ⟨vs, rfl, hl, hr⟩ := rel_tup_inv hr
  refine .tup (by omega) fun j u x hu hx => ?_
  have hj : j < l.length := by grind
  exact h2 j l[j] u (by simp) hu _ _ _ hh (hr j _ _ (by simp) hx)

section
variable {P : Program} {gl : Globs} {f : FuncId}

theorem Gives.nilSplit {obs : List Ob} {r : AV} {obs' : List (Option Ob)} (pre post : List AV) (es n : Nat) (g : Nat → Nat → AV) (h1 : n = 0 → Gives P gl f obs (pre ++ .nsl :: post) r obs')
    (h2 : Gives P gl f obs (pre ++ .nn (.isl es n g) :: post) r obs') : Gives P gl f obs (pre ++ .isl es n g :: post) r obs' := by
  refine ⟨h2.1, fun β w vs hF hgiv hgl hargs => ?_⟩
  have hx : ∀ (a b : AV), (∀ v, vs[pre.length]? = some v → Rel β w b v) → Rels β w (pre ++ a :: post) vs → Rels β w (pre ++ b :: post) vs := fun a b hb hr => by
    refine ⟨by have := hr.len; grind, fun j u x hu hxx => ?_⟩
    rcases Nat.lt_trichotomy j pre.length with h | h | h
    · refine hr.rel j u x ?_ hxx
      grind
    · grind
    · refine hr.rel j u x ?_ hxx
      grind
  obtain ⟨v, hv, hr⟩ := hargs.at (j := pre.length) (u := .isl es n g) (by simp)
  obtain ⟨a, cap, rfl, hcap, hnil, _⟩ := rel_isl_inv hr
  cases a with
  | none =>
    have hc := hnil rfl
    subst hc
    have hn : n = 0 := by omega
    subst hn
    exact (h1 rfl).2 β w vs hF hgiv hgl (hx _ _ (fun v' hv' => by rw [hv] at hv'; cases hv'; exact .nsl) hargs)
  | some ad => exact h2.2 β w vs hF hgiv hgl (hx _ _ (fun v' hv' => by rw [hv] at hv'; cases hv'; exact .nn hr) hargs)

theorem Gives.nil {obs : List Ob} {args : List AV} {obs' : List (Option Ob)} (h : Gives P gl f obs args .nsl obs') (es : Nat) (g : Rep) :
    Gives P gl f obs args (.osl obs'.length es 0 0) (obs' ++ [some ⟨es, 0, true, g⟩]) := by
  refine ⟨h.1, fun β w vs hF hgiv hgl hargs => (h.2 β w vs hF hgiv hgl hargs).mono fun e w' hh => ?_⟩
  obtain ⟨v, β', he, hk, hA, hr⟩ := hh
  have hn := hA.none obs'.length (Nat.le_refl _)
  let β2 : Book := setB β' [(obs'.length, .empty)]
  have at0 : β2.m obs'.length = some .empty := setB_at (by rw [look_one, if_pos rfl])
  have old : ∀ k, k ≠ obs'.length → β2.m k = β'.m k := fun k hk => setB_old (by simp_all [look_one] <;> omega)
  have lv : ∀ k b n mu, β2.m k = some (.lives b n mu) → β'.m k = some (.lives b n mu) := fun k b n mu hb => by grind
  have kk : Keeps β' w' β2 w' := ⟨fun id o ho => ⟨o, by grind, o.later_refl⟩, fun _ _ _ => rfl, fun b _ hf => ⟨hf.1, fun id n h => hf.2 id n (lv _ _ _ _ h)⟩, fun _ _ _ h => h⟩
  cases hr
  refine ⟨_, β2, he, hk, ⟨hA.F, fun k ob hkk => ?_, fun k hkk => ?_, fun i j b n n' mu mu' h1 h2 => hA.inj i j b n n' mu mu' (lv _ _ _ _ h1) (lv _ _ _ _ h2), fun k b n mu hb => hA.live k b n mu (lv _ _ _ _ hb), fun k o ho => ?_⟩, .osl0 (by grind)⟩
  · by_cases e : k = obs'.length
    · subst e
      simp at hkk
      subst hkk
      exact .inr ⟨at0, rfl⟩
    · have hkk' : obs'[k]? = some (some ob) := by grind
      rcases hA.holds k ob hkk' with ⟨b, g1, g2⟩ | ⟨g1, g2⟩
      · exact .inl ⟨b, by grind, g2.keep kk rfl⟩
      · exact .inr ⟨by grind, g2⟩
  · simp at hkk
    rw [old k (by omega)]
    exact hA.none k (by omega)
  · obtain ⟨o', g1, g2⟩ := hA.later k o ho
    grind

theorem Gives.ent {obs : List Ob} {args : List AV} {r r' : AV} {obs' obs2 : List (Option Ob)} (h : Gives P gl f obs args r obs') (hr : Ent obs' r r') (ho : ObsEnt obs' obs' obs2) : Gives P gl f obs args r' obs2 := by
  refine ⟨h.1, fun β w vs hF hgiv hgl hargs => (h.2 β w vs hF hgiv hgl hargs).mono fun e w' hh => ?_⟩
  obtain ⟨v, β', he, hk, hA, hv⟩ := hh
  obtain ⟨hl, hs⟩ := ho.spec
  have hHas : Has obs' β' := fun k o hk => by rcases hA.holds k o hk with ⟨b, g, _⟩ | ⟨g, _⟩ <;> (grind)
  refine ⟨v, β', he, hk, ⟨hA.F, fun k ob hkk => ?_, fun k hkk => hA.none k (by omega), hA.inj, hA.live, hA.later⟩, hr _ _ _ hHas hv⟩
  obtain ⟨o1, g1, g2⟩ := hs k ob hkk
  have e1 := g2.es; have e2 := g2.n; have e3 := g2.mu; have e4 := g2.f
  rcases hA.holds k o1 g1 with ⟨b, k1, cs, el, k2, k3, k4⟩ | ⟨k1, k2⟩
  · refine .inl ⟨b, by grind, cs, el, k2, k3.ent g2, fun i j hi hj => ?_⟩
    rw [← e2] at hi
    rw [← e1] at hj ⊢
    obtain ⟨vv, j1, j2, j3⟩ := k4 i j hi hj
    exact ⟨vv, j1, e4 i j hi hj _ _ _ hHas j2, j3⟩
  · exact .inr ⟨k1, by omega⟩

theorem Gives.via {obs : List Ob} {args args' : List AV} {r : AV} {obs' : List (Option Ob)} (h : Gives P gl f obs args' r obs') (he : EntL (obs.map some) args args') : Gives P gl f obs args r obs' := by
  refine ⟨h.1, fun β w vs hF hgiv hgl hargs => h.2 β w vs hF hgiv hgl ?_⟩
  obtain ⟨h1, h2⟩ := he.spec
  have hHas : Has (obs.map some) β := fun k o hk => by
    rw [List.getElem?_map] at hk
    cases ho : obs[k]? with
    | none => grind
    | some ob => rcases hgiv.holds k ob ho with ⟨b, g, _⟩ | ⟨g, _⟩ <;> (grind)
  refine ⟨by rw [← h1]; exact hargs.len, fun j u x hu hx => ?_⟩
  have hj : j < args.length := by grind
  exact h2 j args[j] u (by simp) hu _ _ _ hHas (hargs.rel j _ _ (by simp) hx)

theorem Pure.via {args args' : List AV} {r : AV} (h : Pure P gl f args' r) (he : EntL [] args args') : Pure P gl f args r := Gives.via h he

theorem Ent.rows {os : List (Option Ob)} {es n : Nat} {f g : Nat → Nat → AV} (h : ∀ i, i < n → (List.range es).map (f i) = (List.range es).map (g i)) : Ent os (.isl es n f) (.isl es n g) :=
  Ent.isl fun i j hi hj => by simp_all

theorem Pure.ent {args : List AV} {r r' : AV} (h : Pure P gl f args r) (hr : Ent [] r r') : Pure P gl f args r' := Gives.ent h hr trivial

end
end Go.Am

namespace Go.Sp
open Go Go.Am

theorem wI {n : Int} (h : -9223372036854775808 ≤ n) (h' : n ≤ 9223372036854775807) : IntKind.wrap .i64 n = n := by simp_all [IntKind.wrap,IntKind.bits,IntKind.signed,Bool.true_and,decide_eq_true_eq,ge_iff_le] <;> omega

def nodeB (d l i : Int) : Bool := decide (0 ≤ d ∧ d ≤ 5 ∧ 0 ≤ l ∧ l ≤ d ∧ 0 ≤ i ∧ i < 2 ^ l.toNat)
def spanA (d l i : Int) : Int := if nodeB d l i then i * 2 ^ (d - l).toNat else 0
def spanZ (d l i : Int) : Int := if nodeB d l i then (i + 1) * 2 ^ (d - l).toNat else 0
def spanE (d l i : Int) : Int := if d < 0 ∨ 5 < d then 1 else if nodeB d l i then 0 else 2
theorem p2 {k : Int} (h0 : 0 ≤ k) (h1 : k ≤ 5) : IntKind.wrap IntKind.i64 (1 * 2 ^ min (Int.toNat k) 64) = 2 ^ k.toNat ∧ min (Int.toNat k) 64 = k.toNat ∧ 1 ≤ (2 : Int) ^ k.toNat ∧ (2 : Int) ^ k.toNat ≤ 32 := by
  rcases (by omega : k = 0 ∨ k = 1 ∨ k = 2 ∨ k = 3 ∨ k = 4 ∨ k = 5) with rfl | rfl | rfl | rfl | rfl | rfl <;> decide

abbrev Sub {α : Type} (p : α → Prop) : Type := {x : α // p x}

structure Spend where
  bank : Int
  epoch : Int
  denom : Int
  depth : Int
  a : Int
  root : Nat → Int
  z : Int
  sa : Int
  sb : Int
  r : Int
  level : Int
  index : Int
  payee : Nat → Int
  time : Int
  number : Int
  nl : Nat
  lf : Nat → Nat → Int
  pidx : Int
  np : Nat
  pf : Nat → Nat → Int

abbrev lvs (n : Nat) (f : Nat → Nat → Int) : AV := .isl 3 n (fun i j => .int .i64 (f i j))
abbrev hss (n : Nat) (f : Nat → Nat → Int) : AV := .isl 32 n (fun i j => .int .u8 (f i j))

def Spend.cw (s : Spend) (x y : AV) : List AV := [.int .i64 s.bank, .int .i64 s.epoch, .int .i64 s.denom, .int .i64 s.depth, .int .i64 s.a, .int .u8 (s.root 0), .int .u8 (s.root 1), .int .u8 (s.root 2), .int .u8 (s.root 3), .int .u8 (s.root 4), .int .u8 (s.root 5), .int .u8 (s.root 6), .int .u8 (s.root 7), .int .u8 (s.root 8), .int .u8 (s.root 9), .int .u8 (s.root 10), .int .u8 (s.root 11), .int .u8 (s.root 12), .int .u8 (s.root 13), .int .u8 (s.root 14), .int .u8 (s.root 15), .int .u8 (s.root 16), .int .u8 (s.root 17), .int .u8 (s.root 18), .int .u8 (s.root 19), .int .u8 (s.root 20), .int .u8 (s.root 21), .int .u8 (s.root 22), .int .u8 (s.root 23), .int .u8 (s.root 24), .int .u8 (s.root 25), .int .u8 (s.root 26), .int .u8 (s.root 27), .int .u8 (s.root 28), .int .u8 (s.root 29), .int .u8 (s.root 30), .int .u8 (s.root 31), .int .i64 s.z, .int .i64 s.sa, .int .i64 s.sb, .int .i64 s.r, .int .i64 s.level, .int .i64 s.index, .int .u8 (s.payee 0), .int .u8 (s.payee 1), .int .u8 (s.payee 2), .int .u8 (s.payee 3), .int .u8 (s.payee 4), .int .u8 (s.payee 5), .int .u8 (s.payee 6), .int .u8 (s.payee 7), .int .u8 (s.payee 8), .int .u8 (s.payee 9), .int .u8 (s.payee 10), .int .u8 (s.payee 11), .int .u8 (s.payee 12), .int .u8 (s.payee 13), .int .u8 (s.payee 14), .int .u8 (s.payee 15), .int .u8 (s.payee 16), .int .u8 (s.payee 17), .int .u8 (s.payee 18), .int .u8 (s.payee 19), .int .u8 (s.payee 20), .int .u8 (s.payee 21), .int .u8 (s.payee 22), .int .u8 (s.payee 23), .int .u8 (s.payee 24), .int .u8 (s.payee 25), .int .u8 (s.payee 26), .int .u8 (s.payee 27), .int .u8 (s.payee 28), .int .u8 (s.payee 29), .int .u8 (s.payee 30), .int .u8 (s.payee 31), .int .i64 s.time, .int .i64 s.number, x, .int .i64 s.pidx, y]
def Spend.cells (s : Spend) : List AV := s.cw (lvs s.nl s.lf) (hss s.np s.pf)
def Spend.av (s : Spend) : AV := .agg s.cells

def okS (s : Spend) : Bool := !(spanE s.depth s.level s.index != 0 || (s.nl : Int) != IntKind.wrap .i64 (spanZ s.depth s.level s.index - spanA s.depth s.level s.index) || decide (s.time < 0) || decide (s.time > 1099511627776) || decide (s.number < 0) || decide (s.number > 1073741824))

def firstI (p : Nat → Bool) : Nat → Nat → Int
  | 0, _ => -1
  | k + 1, i => if p i then i else firstI p k (i + 1)

theorem firstI_step {p : Nat → Bool} {n i : Nat} (h : i < n) : firstI p (n - i) i = if p i then (i : Int) else firstI p (n - (i + 1)) (i + 1) := by
  rw [show n - i = (n - (i + 1)) + 1 by omega]; rfl
theorem firstI_end {p : Nat → Bool} {n i : Nat} (h : n ≤ i) : firstI p (n - i) i = -1 := by
  rw [show n - i = 0 by omega]; rfl
theorem firstI_neg {p : Nat → Bool} : ∀ k i, (decide (firstI p k i ≥ 0)) = (List.range k).any (fun q => p (i + q))
  | 0, i => rfl
  | k + 1, i => by
    have ih := firstI_neg (p := p) k (i + 1)
    have e : (List.range (k + 1)).any (fun q => p (i + q)) = (p i || (List.range k).any (fun q => p (i + 1 + q))) := by
      rw [List.range_succ_eq_map, List.any_cons, List.any_map]
      grind
    rw [e, ← ih]
    by_cases h : p i = true
    · simp_all [firstI]
    simp_all [firstI]

theorem first_hit {p : Nat → Bool} {A : Int} {n i : Nat} (hx : A = firstI p (n - i) i) (h : i < n) (hp : p i = true) : (i : Int) = A := by simp_all [firstI_step]
theorem first_next {p : Nat → Bool} {A : Int} {n i : Nat} (hx : A = firstI p (n - i) i) (h : i < n) (hp : p i = false) : A = firstI p (n - (i + 1)) (i + 1) := by simp_all [firstI_step]
theorem first_miss {p : Nat → Bool} {A : Int} {n i : Nat} (hx : A = firstI p (n - i) i) (h : n ≤ i) : -1 = A := by grind [firstI_end]

theorem inc_ent {os : List (Option Ob)} {i : Nat} (h : i < 9223372036854775807) : Ent os (.int .i64 (IntKind.wrap .i64 (Nat.cast i + 1))) (.int .i64 (Nat.cast (i + 1))) := Ent.of_eq (by grind [wI])

theorem both {a b : Bool} (h : (!(a && b)) = false) : (a && b) = true := by grind

def Spend.zero : Spend := ⟨0, 0, 0, 0, 0, fun _ => 0, 0, 0, 0, 0, 0, 0, fun _ => 0, 0, 0, 0, fun _ _ => 0, 0, 0, fun _ _ => 0⟩

def altE (s : Spend) (k b : Int) : Int := if okS s then (if k < 0 ∨ 11 < k ∨ b < 1 ∨ 1000 < b then 2 else if (k = 10 ∧ s.nl = 1) ∨ (k = 11 ∧ s.np = 0) then 7 else 0) else 1
def x1 (n : Int) : Int := IntKind.wrap .u8 (BitVec.toNat (BitVec.ofInt 8 n ^^^ BitVec.ofInt 8 1))
structure AltOk (s : Spend) (k b : Int) : Prop where
  e : altE s k b = 0
  k0 : 0 ≤ k
  k1 : k ≤ 11
  b0 : 0 ≤ b
  nl : 0 < s.nl
  np : k = 11 → 0 < s.np


theorem wu64m (n : Int) : IntKind.wrap .u64 n = n % 18446744073709551616 := by rfl
theorem wu32m (n : Int) : IntKind.wrap .u32 n = n % 4294967296 := by rfl
theorem wu8m (n : Int) : IntKind.wrap .u8 n = n % 256 := by rfl
theorem wu64 {n : Int} (h : 0 ≤ n) (h' : n < 18446744073709551616) : IntKind.wrap .u64 n = n := by grind [wu64m]
theorem wu32 {n : Int} (h : 0 ≤ n) (h' : n < 4294967296) : IntKind.wrap .u32 n = n := by grind [wu32m]
theorem orN {w n m : Nat} (hn : n < 2 ^ w) (hm : m < 2 ^ w) : (BitVec.ofInt w (n : Int) ||| BitVec.ofInt w (m : Int)).toNat = n ||| m := by grind
theorem shr_eq {x : Int} {k : Nat} : Int.fdiv x (2 ^ k) = x / 2 ^ k := Int.fdiv_eq_ediv_of_nonneg _ (Int.le_of_lt (Int.pow_pos (by decide)))
theorem tmod_nn {a b : Int} (h : 0 ≤ a) : Int.tmod a b = a % b := Int.tmod_eq_emod_of_nonneg h
theorem tdiv_nn {a b : Int} (h : 0 ≤ a) : Int.tdiv a b = a / b := Int.tdiv_eq_ediv_of_nonneg h

theorem mul_bnd {a b : Int} (ha : 0 ≤ a) (hb : 0 ≤ b) (ha' : a < 4294967296) (hb' : b < 4294967296) : 0 ≤ a * b ∧ a * b ≤ 18446744065119617025 := by
  refine ⟨Int.mul_nonneg ha hb, ?_⟩
  have := Int.mul_le_mul (show a ≤ 4294967295 by omega) (show b ≤ 4294967295 by omega) hb (by omega)
  omega

def lenI (x : Int) : Int := if x ≤ 0 then 0 else Nat.log2 x.toNat + 1

theorem lenI_pos {x : Int} (h : 0 < x) : ∃ n : Nat, lenI x = n + 1 ∧ 2 ^ n ≤ x ∧ x < 2 ^ (n + 1) := by
  obtain ⟨m, rfl⟩ := Int.eq_ofNat_of_zero_le (a := x) (by omega)
  have hm : m ≠ 0 := by omega
  refine ⟨Nat.log2 m, ?_, ?_, ?_⟩
  · simp_all [lenI]
  · grind [Nat.log2_self_le]
  · exact_mod_cast Nat.lt_log2_self
section
structure Est (y1 y0 un d q r : Int) : Prop where
  e : q * y1 + r = un
  le : (un * 4294967296 + d) / (y1 * 4294967296 + y0) ≤ q
  hi : q ≤ 4294967297
  r0 : 0 ≤ r

structure Dig (y1 y0 un d : Int) : Prop where
  a : 2147483648 ≤ y1
  b : y1 < 4294967296
  c : 0 ≤ y0
  c' : y0 < 4294967296
  u : 0 ≤ un
  u' : un < y1 * 4294967296 + y0
  d0 : 0 ≤ d
  d1 : d < 4294967296

variable {y1 y0 un d q r : Int}
theorem Dig.pos (h : Dig y1 y0 un d) : 0 < y1 * 4294967296 + y0 := by have := h.a; have := h.c; omega
theorem Dig.Q0 (h : Dig y1 y0 un d) : 0 ≤ (un * 4294967296 + d) / (y1 * 4294967296 + y0) := by
  have := h.u; have := h.d0
  exact Int.ediv_nonneg (by omega) (Int.le_of_lt h.pos)
theorem Dig.Q1 (h : Dig y1 y0 un d) : (un * 4294967296 + d) / (y1 * 4294967296 + y0) < 4294967296 := by
  have h1 := h.u'; have h2 := h.d1
  refine (Int.ediv_lt_iff_lt_mul h.pos).2 ?_
  omega
theorem Dig.init (h : Dig y1 y0 un d) : Est y1 y0 un d (un / y1) (un - un / y1 * y1) ∧ un - un / y1 * y1 < 4294967296 := by
  have hp : 0 < y1 := by have := h.a; omega
  have hb := h.b
  have e1 := Int.emod_add_mul_ediv un y1
  have e2 := Int.emod_nonneg un (show y1 ≠ 0 by omega)
  have e3 := Int.emod_lt_of_pos un hp
  have e4 : un / y1 * y1 = y1 * (un / y1) := Int.mul_comm _ _
  have hu := h.u; have hu' := h.u'; have hc := h.c'; have ha := h.a; have hd := h.d1; have hc0 := h.c
  have q0 : 0 ≤ un / y1 := Int.ediv_nonneg hu (by omega)
  refine ⟨⟨by omega, ?_, ?_, by omega⟩, by omega⟩
  · refine Int.lt_add_one_iff.1 ((Int.ediv_lt_iff_lt_mul h.pos).2 ?_)
    have k1 : (un / y1 + 1) * (y1 * 4294967296 + y0) = y1 * (un / y1) * 4294967296 + y1 * 4294967296 + (un / y1 + 1) * y0 := by grind
    have k2 : 0 ≤ (un / y1 + 1) * y0 := Int.mul_nonneg (by omega) hc0
    omega
  · refine Int.lt_add_one_iff.1 ((Int.ediv_lt_iff_lt_mul hp).2 ?_)
    omega
theorem Est.more (h : Dig y1 y0 un d) (k : Est y1 y0 un d q r) (h2 : 4294967296 ≤ q ∨ 4294967296 * r + d < q * y0) : (un * 4294967296 + d) / (y1 * 4294967296 + y0) ≤ q - 1 ∧ 1 ≤ q := by
  have q0 := h.Q0
  rcases h2 with h2 | h2
  · have := h.Q1; omega
  · have k1 := k.e
    have : (un * 4294967296 + d) / (y1 * 4294967296 + y0) < q := by
      refine (Int.ediv_lt_iff_lt_mul h.pos).2 ?_
      grind
    omega
theorem Est.next (h : Dig y1 y0 un d) (k : Est y1 y0 un d q r) (h2 : 4294967296 ≤ q ∨ 4294967296 * r + d < q * y0) : Est y1 y0 un d (q - 1) (r + y1) := by
  have k1 := k.e; have k2 := k.hi; have k3 := k.r0; have := h.a
  refine ⟨?_, (k.more h h2).1, by omega, by omega⟩
  grind
theorem Dig.rem (h : Dig y1 y0 un d) (hq : q = (un * 4294967296 + d) / (y1 * 4294967296 + y0)) : (((un * 4294967296) % 18446744073709551616 + d) % 18446744073709551616 - (q * (y1 * 4294967296 + y0)) % 18446744073709551616) % 18446744073709551616 = (un * 4294967296 + d) % (y1 * 4294967296 + y0) := by
  have e1 := Int.emod_add_mul_ediv (un * 4294967296 + d) (y1 * 4294967296 + y0)
  have e2 := Int.emod_nonneg (un * 4294967296 + d) (show y1 * 4294967296 + y0 ≠ 0 by have := h.pos; omega)
  have e3 := Int.emod_lt_of_pos (un * 4294967296 + d) h.pos
  rw [← hq] at e1
  have e4 : (y1 * 4294967296 + y0) * q = q * (y1 * 4294967296 + y0) := Int.mul_comm _ _
  have hb := h.b; have hc := h.c'
  omega
end

def shI (y : Int) : Nat := (64 - lenI y).toNat
theorem shI_spec {y : Int} (h : 0 < y) (h' : y < 18446744073709551616) : shI y < 64 ∧ lenI y = 64 - shI y ∧ 9223372036854775808 ≤ y * 2 ^ shI y ∧ y * 2 ^ shI y < 18446744073709551616 := by
  obtain ⟨n, h1, h2, h3⟩ := lenI_pos h
  have hn : n < 64 := by
    have h4 : (2 : Int) ^ n = ((2 ^ n : Nat) : Int) := by rfl
    exact (Nat.pow_lt_pow_iff_right (a := 2) (m := 64) (by decide)).1 (by omega)
  have hs : shI y = 63 - n := by grind [shI]
  rw [hs, h1]
  have e : (2 : Int) ^ n * 2 ^ (63 - n) = 9223372036854775808 := by rw [← Int.pow_add, show n + (63 - n) = 63 by omega]; rfl
  have e2 : (2 : Int) ^ (n + 1) * 2 ^ (63 - n) = 18446744073709551616 := by grind
  have hp : (0 : Int) < 2 ^ (63 - n) := Int.pow_pos (by decide)
  refine ⟨by omega, by omega, ?_, ?_⟩
  · rw [← e]; exact Int.mul_le_mul_of_nonneg_right h2 (Int.le_of_lt hp)
  · rw [← e2]; exact Int.mul_lt_mul_of_pos_right h3 hp

theorem or_add {a b : Int} {s : Nat} (ha : 0 ≤ a) (hb : 0 ≤ b) (hb' : b < 2 ^ s) (hs : a * 2 ^ s + b < 18446744073709551616) : IntKind.wrap .u64 ((BitVec.ofInt 64 (a * 2 ^ s) ||| BitVec.ofInt 64 b).toNat : Nat) = a * 2 ^ s + b := by
  obtain ⟨n, rfl⟩ := Int.eq_ofNat_of_zero_le ha
  obtain ⟨m, rfl⟩ := Int.eq_ofNat_of_zero_le hb
  have hm : m < 2 ^ s := by grind
  have e : ((n : Int) * 2 ^ s) = ((n * 2 ^ s : Nat) : Int) := by rfl
  rw [e] at hs
  have hlt : n * 2 ^ s + m < 2 ^ 64 := by omega
  rw [e, orN (by omega) (by omega), ← Nat.shiftLeft_eq, ← Nat.shiftLeft_add_eq_or_of_lt hm, Nat.shiftLeft_eq, wu64 (by omega) (by omega)]
  rfl

section
structure Div (x y z : Int) : Prop where
  x0 : 0 ≤ x
  xz : x < z
  z1 : z < 18446744073709551616
  y0 : 0 ≤ y
  y1 : y < 18446744073709551616

def dY (z : Int) : Int := z * 2 ^ shI z
def dU (x y z : Int) : Int := (x * 18446744073709551616 + y) * 2 ^ shI z
def dU1 (x y z : Int) : Int := dU x y z / 18446744073709551616
def dU0 (x y z : Int) : Int := dU x y z % 18446744073709551616
def dN (x y z : Int) : Int := dU1 x y z * 4294967296 + dU0 x y z / 4294967296
def dQ (x y z : Int) : Int := dN x y z / dY z
def dR (x y z : Int) : Int := dN x y z % dY z

variable {x y z : Int}
theorem Div.sh (h : Div x y z) : shI z < 64 ∧ lenI z = 64 - shI z ∧ 9223372036854775808 ≤ dY z ∧ dY z < 18446744073709551616 := shI_spec (by have := h.x0; have := h.xz; omega) h.z1
theorem Div.u1 (h : Div x y z) : dU1 x y z = x * 2 ^ shI z + y / 2 ^ (64 - shI z) := by
  have hs := h.sh
  have e : (18446744073709551616 : Int) = 2 ^ (64 - shI z) * 2 ^ shI z := by rw [← Int.pow_add, show 64 - shI z + shI z = 64 by omega]; rfl
  have e2 : dU x y z = y * 2 ^ shI z + x * 2 ^ shI z * 18446744073709551616 := by grind [dU]
  unfold dU1
  rw [e2, Int.add_mul_ediv_right _ _ (by decide)]
  grind [shI,Int.mul_ediv_mul_of_pos_left,Int.pow_pos]
theorem Div.u0 (_ : Div x y z) : dU0 x y z = y * 2 ^ shI z % 18446744073709551616 := by grind [dU,shI,dU0]
theorem dY_split (z : Int) : dY z / 4294967296 * 4294967296 + dY z % 4294967296 = dY z := by omega
theorem Div.ult (h : Div x y z) : 0 ≤ dU1 x y z ∧ dU1 x y z < dY z := by
  have hp : (0 : Int) < 2 ^ shI z := Int.pow_pos (by decide)
  have h0 : 0 ≤ dU x y z := Int.mul_nonneg (by have := h.x0; have := h.y0; omega) (Int.le_of_lt hp)
  refine ⟨Int.ediv_nonneg h0 (by decide), (Int.ediv_lt_iff_lt_mul (by decide)).2 ?_⟩
  have : dU x y z < (z * 18446744073709551616) * 2 ^ shI z := Int.mul_lt_mul_of_pos_right (by have := h.xz; have := h.y1; omega) hp
  grind [dY,shI]
theorem Div.dig1 (h : Div x y z) : Dig (dY z / 4294967296) (dY z % 4294967296) (dU1 x y z) (dU0 x y z / 4294967296) := by
  have hs := h.sh
  have hu := h.ult
  have h0 : 0 ≤ dU0 x y z ∧ dU0 x y z < 18446744073709551616 := by grind [dU0]
  exact ⟨by omega, by omega, by omega, by omega, hu.1, by omega, by omega, by omega⟩
theorem Div.dig2 (h : Div x y z) : Dig (dY z / 4294967296) (dY z % 4294967296) (dR x y z) (dU0 x y z % 4294967296) := by
  have hs := h.sh
  have hp : 0 < dY z := by omega
  have r0 : 0 ≤ dR x y z := Int.emod_nonneg _ (by omega)
  have r1 : dR x y z < dY z := Int.emod_lt_of_pos _ hp
  exact ⟨by omega, by omega, by omega, by omega, r0, by omega, by omega, by omega⟩
theorem Div.fin (h : Div x y z) : dQ x y z * 4294967296 + (dR x y z * 4294967296 + dU0 x y z % 4294967296) / dY z = (x * 18446744073709551616 + y) / z ∧
    (dR x y z * 4294967296 + dU0 x y z % 4294967296) % dY z / 2 ^ shI z = (x * 18446744073709551616 + y) % z := by
  have hs := h.sh
  have hp : 0 < dY z := by omega
  have h2 : (0 : Int) < 2 ^ shI z := Int.pow_pos (by decide)
  have e1 : dY z * dQ x y z + dR x y z = dN x y z := Int.mul_ediv_add_emod _ _
  have e2 := Int.mul_ediv_add_emod (dR x y z * 4294967296 + dU0 x y z % 4294967296) (dY z)
  have r0 := Int.emod_nonneg (dR x y z * 4294967296 + dU0 x y z % 4294967296) (show dY z ≠ 0 by omega)
  have r1 := Int.emod_lt_of_pos (dR x y z * 4294967296 + dU0 x y z % 4294967296) hp
  have e3 : dU x y z = dU1 x y z * 18446744073709551616 + dU0 x y z := by grind [dU1,dU0]
  generalize (dR x y z * 4294967296 + dU0 x y z % 4294967296) % dY z = r at *
  generalize (dR x y z * 4294967296 + dU0 x y z % 4294967296) / dY z = q at *
  have e4 : dU x y z = r + dY z * (dQ x y z * 4294967296 + q) := by grind [dY,dQ,dN]
  have u := (Int.ediv_emod_unique hp).2 ⟨e4.symm, r0, r1⟩
  grind [dU,dY,Int.mul_ediv_mul_of_pos_left,shI,Int.mul_comm,Int.mul_emod_mul_of_pos,Int.mul_ediv_cancel]
theorem Div.s (h : Div x y z) : IntKind.wrap .u64 (64 - lenI z) = shI z := by have := h.sh; grind [wu64]
theorem Div.sm (h : Div x y z) : min (Int.toNat (IntKind.wrap .u64 (64 - lenI z))) 64 = shI z := by have := h.sh; rw [h.s]; omega
theorem Div.v2 (h : Div x y z) : IntKind.wrap .u64 (z * 2 ^ min (Int.toNat (IntKind.wrap .u64 (64 - lenI z))) 64) = dY z := by
  have := h.sh
  grind [wu64,dY]
theorem Div.v11 (h : Div x y z) : IntKind.wrap .u64 ((BitVec.ofInt 64 (IntKind.wrap .u64 (x * 2 ^ min (Int.toNat (IntKind.wrap .u64 (64 - lenI z))) 64)) ||| BitVec.ofInt 64 (Int.fdiv y (2 ^ min (Int.toNat (IntKind.wrap .u64 (64 - IntKind.wrap .u64 (64 - lenI z)))) 64))).toNat : Nat) = dU1 x y z := by
  have hs := h.sh
  have hu := h.ult
  have h2 : (0 : Int) < 2 ^ shI z := Int.pow_pos (by decide)
  have hx : 0 ≤ x * 2 ^ shI z := Int.mul_nonneg h.x0 (Int.le_of_lt h2)
  have e : min (Int.toNat (IntKind.wrap .u64 (64 - IntKind.wrap .u64 (64 - lenI z)))) 64 = 64 - shI z := by grind [wu64]
  rw [h.sm, e, shr_eq, h.u1]
  have hy : 0 ≤ y / 2 ^ (64 - shI z) := Int.ediv_nonneg h.y0 (Int.le_of_lt (Int.pow_pos (by decide)))
  have hy' : y / 2 ^ (64 - shI z) < 2 ^ shI z := by
    refine (Int.ediv_lt_iff_lt_mul (Int.pow_pos (by decide))).2 ?_
    rw [← Int.pow_add, show shI z + (64 - shI z) = 64 by omega]
    exact h.y1
  have hlt : x * 2 ^ shI z + y / 2 ^ (64 - shI z) < 18446744073709551616 := by rw [← h.u1]; omega
  rw [wu64 hx (by omega)]
  exact or_add h.x0 hy hy' hlt

theorem Est.cond_t {y1 y0 un d q r : Int} (h : Dig y1 y0 un d) (k : Est y1 y0 un d q r) (hr : r < 4294967296) (g : q ≥ 4294967296 ∨ IntKind.wrap .u64 (q * y0) > IntKind.wrap .u64 (IntKind.wrap .u64 (4294967296 * r) + d)) : 4294967296 ≤ q ∨ 4294967296 * r + d < q * y0 := by
  by_cases hq : 4294967296 ≤ q
  · omega
  · right
    have q0 : 0 ≤ q := Int.le_trans h.Q0 k.le
    have hc := h.c; have hc' := h.c'; have := k.r0; have := h.d0; have := h.d1
    grind [mul_bnd,wu64]
theorem Div.rem2 (h : Div x y z) {q : Int} (hq : q = (dR x y z * 4294967296 + dU0 x y z % 4294967296) / dY z) : IntKind.wrap .u64 (IntKind.wrap .u64 (IntKind.wrap .u64 (dR x y z * 4294967296) + dU0 x y z % 4294967296) - IntKind.wrap .u64 (q * dY z)) = (dR x y z * 4294967296 + dU0 x y z % 4294967296) % dY z := by
  have e := h.dig2.rem (q := q) (by grind)
  grind [dY_split,wu64m]
end

section
variable {y1 y0 un d q r : Int}
end

section
variable {x y z y1 y0 un d q r : Int}
theorem Est.stepW (h : Dig y1 y0 un d) (k : Est y1 y0 un d q r) (hr : r < 4294967296) (g : q ≥ 4294967296 ∨ IntKind.wrap .u64 (q * y0) > IntKind.wrap .u64 (IntKind.wrap .u64 (4294967296 * r) + d)) : IntKind.wrap .u64 (q - 1) = q - 1 ∧ IntKind.wrap .u64 (r + y1) = r + y1 := by
  have m := k.more h (k.cond_t h hr g)
  have := k.hi; have := k.r0; have := h.a; have := h.b
  grind [wu64]
theorem Div.dQ_eq (z : Int) : (dU1 x y z * 4294967296 + dU0 x y z / 4294967296) / (dY z / 4294967296 * 4294967296 + dY z % 4294967296) = dQ x y z := by rw [dY_split]; rfl
theorem Div.out (h : Div x y z) (hq : q = (dR x y z * 4294967296 + dU0 x y z % 4294967296) / (dY z / 4294967296 * 4294967296 + dY z % 4294967296)) : IntKind.wrap .u64 (IntKind.wrap .u64 (dQ x y z * 4294967296) + q) = (x * 18446744073709551616 + y) / z ∧
    Int.fdiv (IntKind.wrap .u64 (IntKind.wrap .u64 (IntKind.wrap .u64 (dR x y z * 4294967296) + dU0 x y z % 4294967296) - IntKind.wrap .u64 (q * dY z))) (2 ^ min (Int.toNat ((shI z : Nat) : Int)) 64) = (x * 18446744073709551616 + y) % z := by
  have e := h.fin
  have a1 := h.dig1.Q0; have a2 := h.dig1.Q1
  rw [Div.dQ_eq] at a1 a2
  have b1 := h.dig2.Q0; have b2 := h.dig2.Q1
  rw [← hq] at b1 b2
  rw [dY_split] at hq
  have hs := h.sh
  rw [h.rem2 hq, wu64 (n := dQ x y z * 4294967296) (by omega) (by omega), wu64 (by omega) (by omega), shr_eq, hq, e.1]
  grind
end


def chkI (a b m : Int) : Int := if m < 1 ∨ 2305843009213693952 ≤ m then 1 else if 0 ≤ a ∧ a < m ∧ 0 ≤ b ∧ b < m then 0 else 2
theorem chk_ok {a b m : Int} (hm : 0 < m) (hm' : m < 2305843009213693952) (ha : 0 ≤ a) (ha' : a < m) (hb : 0 ≤ b) (hb' : b < m) : chkI a b m = 0 := by simp_all [chkI] <;> omega
theorem mulmod (a b m : Int) : a % m * b % m = a * b % m := by simp [Int.mul_emod,Int.emod_emod_of_dvd,Int.dvd_refl]
structure PwI (a0 : Int) (e0 : Nat) (m : Int) (s : Int × Int × Int) : Prop where
  p : s.1 * s.2.1 ^ s.2.2.toNat % m = a0 ^ e0 % m
  x0 : 0 ≤ s.1
  x1 : s.1 < m
  a0 : 0 ≤ s.2.1
  a1 : s.2.1 < m
  e0 : 0 ≤ s.2.2
theorem PwI.start {a e m : Int} (h0 : 0 ≤ a) (h1 : a < m) (he : 0 ≤ e) : PwI a e.toNat m (1 % m, a, e) :=
  ⟨by simp [mulmod], Int.emod_nonneg _ (by omega), Int.emod_lt_of_pos _ (by omega), h0, h1, he⟩

structure MlI (p0 : Int) (m : Int) (s : Int × Int × Int) : Prop where
  p : (s.1 + s.2.1 * s.2.2) % m = p0 % m
  x0 : 0 ≤ s.1
  x1 : s.1 < m
  a0 : 0 ≤ s.2.1
  a1 : s.2.1 < m
  e0 : 0 ≤ s.2.2
theorem dbl {x a e m : Int} (h : e % 2 = 0) : (x + (a + a) % m * (e / 2)) % m = (x + a * e) % m := by grind [Int.add_emod,mulmod]
theorem MlI.start {a b m : Int} (h0 : 0 ≤ a) (h1 : a < m) (he : 0 ≤ b) : MlI (a * b) m (0, a, b) :=
  ⟨by simp, by simp, by omega, h0, h1, he⟩

def okv (e v : Int) : Int := if e = 0 then v else 0
def powE (a e m : Int) : Int := if chkI a a m = 0 then (if e < 0 then 2 else 0) else chkI a a m

theorem powE_0 {a e m : Int} (h : chkI a a m = 0) (h2 : ¬ e < 0) : powE a e m = 0 := by simp_all [powE,if_neg]

def bsL : List Int := [2, 3, 5, 7, 11, 13, 17, 19, 23, 29, 31, 37]
def kL : List Int := [1116352408, 1899447441, 3049323471, 3921009573, 961987163, 1508970993, 2453635748, 2870763221, 3624381080, 310598401, 607225278, 1426881987, 1925078388, 2162078206, 2614888103, 3248222580, 3835390401, 4022224774, 264347078, 604807628, 770255983, 1249150122, 1555081692, 1996064986, 2554220882, 2821834349, 2952996808, 3210313671, 3336571891, 3584528711, 113926993, 338241895, 666307205, 773529912, 1294757372, 1396182291, 1695183700, 1986661051, 2177026350, 2456956037, 2730485921, 2820302411, 3259730800, 3345764771, 3516065817, 3600352804, 4094571909, 275423344, 430227734, 506948616, 659060556, 883997877, 958139571, 1322822218, 1537002063, 1747873779, 1955562222, 2024104815, 2227730452, 2361852424, 2428436474, 2756734187, 3204031479, 3329325298]
def stL : List Int := [1779033703, 3144134277, 1013904242, 2773480762, 1359893119, 2600822924, 528734635, 1541459225]
def bsF (j : Nat) : Int := bsL.getD j 0
def kF (j : Nat) : Int := kL.getD j 0
def stF (j : Nat) : Int := stL.getD j 0

def tzf : Nat → Int → Nat
  | 0, _ => 0
  | k + 1, x => if x % 2 = 0 then tzf k (x / 2) + 1 else 0
def tzI (x : Int) : Nat := tzf 64 x


def msq (a d n : Int) (i : Nat) : Int := a ^ (d.toNat * 2 ^ i) % n
def hasI (p : Nat → Bool) (n : Nat) : Bool := (List.range n).any p
def allI (p : Nat → Bool) (n : Nat) : Bool := (List.range n).all p
def strongB (n a : Int) : Bool := msq a ((n - 1) / 2 ^ tzI (n - 1)) n 0 == 1 || hasI (fun i => msq a ((n - 1) / 2 ^ tzI (n - 1)) n i == n - 1) (tzI (n - 1))
def isP (n : Int) : Bool := if n < 2 then false else if 0 ≤ firstI (fun i => n % bsF i == 0) 12 0 then n == bsF (firstI (fun i => n % bsF i == 0) 12 0).toNat else allI (fun i => strongB n (bsF i)) 12

theorem lst_fn {os : List (Option Ob)} {es n : Nat} {mu : Bool} {l : List (List AV)} {f : Nat → Nat → AV} (h : ∀ i j, i < n → j < es → atL (l.getD i []) j = f i j) : ObEnt os ⟨es, n, mu, .lst l⟩ ⟨es, n, mu, .fn f⟩ := ⟨rfl, rfl, rfl, fun i j hi hj => Ent.of_eq (h i j hi hj)⟩

structure Grp where
  p : Int
  q : Int
  g : Int
def Grp.cells (G : Grp) : List AV := [.int .i64 G.p, .int .i64 G.q, .int .i64 G.g]
def Grp.av (G : Grp) : AV := .agg G.cells
structure Bas where
  gr : Grp
  g1 : Int
  g2 : Int
  h : Int
def Bas.cells (b : Bas) : List AV := b.gr.cells ++ [.int .i64 b.g1, .int .i64 b.g2, .int .i64 b.h]
def Bas.av (b : Bas) : AV := .agg b.cells

def elemB (G : Grp) (x : Int) : Bool := decide (1 ≤ x) && decide (x < G.p) && (okv (powE x G.q G.p) (x ^ G.q.toNat % G.p) == 1)
structure Grp.W (G : Grp) : Prop where
  p : G.p ≤ 9223372036854775807
  q : G.q ≤ 9223372036854775807

structure Grp.Ok (G : Grp) : Prop where
  p3 : 3 ≤ G.p
  p1 : G.p < 2305843009213693952
  q3 : 3 ≤ G.q
  q2 : G.q % 2 = 1
  d : (G.p - 1) % G.q = 0
  g2 : 2 ≤ G.g
  g1 : G.g < G.p
  ip : isP G.p = true
  iq : isP G.q = true
  pw : G.g ^ G.q.toNat % G.p = 1

theorem Grp.Ok.powE {G : Grp} (h : G.Ok) {x : Int} (h0 : 0 ≤ x) (h1 : x < G.p) : powE x G.q G.p = 0 := by
  have := h.p3; have := h.p1; have := h.q3
  grind [powE_0,chk_ok]
def Bas.x (b : Bas) (i : Nat) : Int := [b.g1, b.g2, b.h].getD i 0
structure Bas.Ok (b : Bas) : Prop where
  G : b.gr.Ok
  n1 : b.g1 ≠ 1
  n2 : b.g2 ≠ 1
  nh : b.h ≠ 1
  e1 : elemB b.gr b.g1 = true
  e2 : elemB b.gr b.g2 = true
  eh : elemB b.gr b.h = true
end Go.Sp

namespace Go.Proofs.YtbmdmoknnlhdoaaGreatDoor.Z
open Go Go.Am Go.Sp
set_option maxRecDepth 100000

def gl0 : Globs := fun g => bif Nat.beq g 6 then some (8, fun j => .int .u32 (stF j)) else bif Nat.beq g 8 then some (64, fun j => .int .u32 (kF j)) else none
def ow0 : FuncId → Option (List Bool) := fun _ => none
theorem mixed : Tryz.prog.follows .mixedOrders = true := by kernel_rfl

end Go.Proofs.YtbmdmoknnlhdoaaGreatDoor.Z

namespace Go.Am
open Go.RowKit Go.ChangeShapes Go.WideShapes Go.ChangeAt

inductive CT where
  | int (k : IntKind)
  | bool
  | str
  | sl (cs : List CT)

inductive CellOk : CT → AV → Prop where
  | int {k : IntKind} {n : Int} (h : (Lit.int k n).wf = true) : CellOk (.int k) (.int k n)
  | bool {b : Bool} : CellOk .bool (.bool b)
  | str {s : ByteArray} (h : s.size ≤ maxLen) : CellOk .str (.str s)
  | sl {cs : List CT} {n : Nat} {f : Nat → Nat → AV} (hn : n ≤ maxLen) (h : ∀ (i j : Nat) c, i < n → cs[j]? = some c → CellOk c (f i j)) : CellOk (.sl cs) (.isl cs.length n f)

def shapeFs (P : Program) (sh : TypeId → Option (List CT)) : Nat → List Field → Option (List CT)
  | _, [] => some []
  | off, f :: fs => match sh f.type with
    | some l => bif Nat.beq f.offset off && Nat.beq l.length (P.cellsOf f.type) then (match shapeFs P sh (off + l.length) fs with | some r => some (l ++ r) | none => none) else none
    | none => none

def shape (P : Program) : Nat → TypeId → Option (List CT)
  | 0, _ => none
  | n + 1, t => match P.underlying t with
    | some .bool => some [.bool]
    | some (.int k) => some [.int k]
    | some .string => some [.str]
    | some (.slice e) => match shape P n e with
      | some l => bif Nat.beq l.length (P.cellsOf e) && Nat.blt 0 l.length then some [.sl l] else none
      | none => none
    | some (.struct fs) => match shapeFs P (shape P n) 0 fs.toList with
      | some l => bif Nat.beq l.length (P.cellsOf t) then some l else none
      | none => none
    | some (.array m e) => match shape P n e with
      | some l => bif Nat.beq l.length (P.cellsOf e) && Nat.beq (m * l.length) (P.cellsOf t) then some (List.replicate m l).flatten else none
      | none => none
    | _ => none

abbrev noB : Book := Book.none fun _ => False
theorem noB_free (b : Nat) : noB.free b := ⟨fun h => h, fun _ _ h => by cases h⟩

structure Fits (w : World) (ts : List CT) (cs : List Value) : Prop where
  len : cs.length = ts.length
  cell : ∀ (j : Nat) c, ts[j]? = some c → ∃ v a, cs[j]? = some v ∧ CellOk c a ∧ Rel noB w a v ∧ v.oneCell' = true

theorem Fits.nil {w : World} : Fits w [] [] := ⟨rfl, fun j c h => by grind⟩
theorem Fits.one {w : World} {c : CT} {v : Value} {a : AV} (h : CellOk c a) (hr : Rel noB w a v) (ho : v.oneCell' = true) : Fits w [c] [v] := by
  refine ⟨rfl, fun j c' hj => ?_⟩
  grind
theorem Fits.append {w : World} {ts ts' : List CT} {cs cs' : List Value} (h : Fits w ts cs) (h' : Fits w ts' cs') : Fits w (ts ++ ts') (cs ++ cs') := by
  refine ⟨by simp [h.len, h'.len], fun j c hj => ?_⟩
  by_cases hl : j < ts.length
  · rw [List.getElem?_append_left hl] at hj
    rw [List.getElem?_append_left (by rw [h.len]; omega)]
    exact h.cell j c hj
  · rw [List.getElem?_append_right (by omega)] at hj
    rw [List.getElem?_append_right (by rw [h.len]; omega), h.len]
    exact h'.cell _ c hj

theorem mapM_each {α β : Type} {f : α → Option β} {l : List α} {r : List β} (h : l.mapM f = some r) {x : α} (hx : x ∈ l) : ∃ y, f x = some y := by
  obtain ⟨i, hi, rfl⟩ := List.getElem_of_mem hx
  have h1 := mapM_some_length h
  have h2 := mapM_some_get h i _ (List.getElem?_eq_getElem hi)
  grind

theorem drop_take_split {cs : List Value} {off a b : Nat} : (cs.drop off).take (a + b) = (cs.drop off).take a ++ (cs.drop (off + a)).take b := by
  rw [List.take_add, List.drop_drop]

section
variable {H : Type} {enc : TypeId × Value → H} {P : Program} {w : World} {sp : Nat → Bool}

theorem fits_fields {sh : TypeId → Option (List CT)} {cs : List Value} : ∀ (fs : List Field) (off : Nat) (ts : List CT), shapeFs P sh off fs = some ts → (∀ f ∈ fs, ∀ l, sh f.type = some l → Fits w l ((cs.drop f.offset).take (P.cellsOf f.type))) →
    Fits w ts ((cs.drop off).take ts.length) := by
  intro fs
  induction fs with
  | nil => simp [shapeFs,Fits.nil]
  | cons f fs ih =>
    intro off ts h hf
    simp only [shapeFs] at h
    cases hl : sh f.type with
    | none => grind
    | some l =>
      simp only [hl] at h
      obtain ⟨hc, h2⟩ := bif_some h
      rw [Bool.and_eq_true] at hc
      have e1 := Nat.eq_of_beq_eq_true hc.1
      have e2 := Nat.eq_of_beq_eq_true hc.2
      cases hr : shapeFs P sh (off + l.length) fs with
      | none => grind
      | some r =>
        simp only [hr, Option.some.injEq] at h2
        subst h2
        have g1 := hf f (List.mem_cons_self ..) l hl
        have g2 := ih (off + l.length) r hr (fun f' hf' => hf f' (List.mem_cons_of_mem _ hf'))
        rw [e1, ← e2] at g1
        rw [List.length_append, drop_take_split]
        exact g1.append g2

theorem fits_elems {cs : List Value} {l : List CT} : ∀ n : Nat, (∀ i, i < n → Fits w l ((cs.drop (i * l.length)).take l.length)) → Fits w (List.replicate n l).flatten (cs.take (n * l.length)) := by
  intro n
  induction n with
  | zero => simp [Fits.nil]
  | succ n ih =>
    intro h
    have g1 := ih (fun i hi => h i (by omega))
    have g2 := h n (by omega)
    have e : cs.take ((n + 1) * l.length) = cs.take (n * l.length) ++ (cs.drop (n * l.length)).take l.length := by
      rw [Nat.add_mul, Nat.one_mul, List.take_add]
    have e2 : (List.replicate (n + 1) l).flatten = (List.replicate n l).flatten ++ l := by simp [List.replicate_succ',List.flatten_append]
    rw [e, e2]
    exact g1.append g2

theorem open_fits : ∀ (m : Nat) (t : TypeId) (fuel : Nat) (cs : List Value) (x : DataW H × List MemPlace) (ts : List CT), DataW.trod enc P w 0 sp true fuel t cs = some x → shape P m t = some ts → Fits w ts cs := by
  intro m
  induction m with
  | zero => simp [shape]
  | succ m ih =>
    intro t fuel cs x ts htr hsh
    simp only [shape] at hsh
    cases fuel with
    | zero => simp_all [DataW.trod]
    | succ fuel =>
      split at hsh
      · rename_i hu
        simp only [Option.some.injEq] at hsh; subst hsh
        simp only [DataW.trod, hu] at htr
        split at htr <;> simp_all
        exact .one .bool .bool rfl
      · rename_i k hu
        simp only [Option.some.injEq] at hsh; subst hsh
        simp only [DataW.trod, hu] at htr
        split at htr <;> simp_all
        obtain ⟨⟨rfl, hw⟩, _⟩ := htr
        exact .one (.int hw) .int rfl
      · rename_i hu
        simp only [Option.some.injEq] at hsh; subst hsh
        simp only [DataW.trod, hu] at htr
        split at htr <;> simp_all
        exact .one (.str htr.1) .str rfl
      · rename_i e hu
        split at hsh
        · rename_i l hl
          obtain ⟨hc, h2⟩ := bif_some hsh
          clear hsh
          rw [Bool.and_eq_true, Nat.blt_eq] at hc
          have e1 := Nat.eq_of_beq_eq_true hc.1
          cases h2
          rcases Go.Deep.open_slice hu htr with ⟨rfl, _⟩ | ⟨a, len, cap, m', n, D, Pl, rfl, hb, hlc, hm, hmm, _, hx⟩
          · exact .one (a := .isl l.length 0 fun _ _ => .junk) (.sl (Nat.zero_le _) (fun i j c hi => absurd hi (by omega))) (.isl0 fun _ => rfl) rfl
          · have hlm : len ≤ m' := by grind
            have hrow : ∀ i, i < len → ∃ cs', w.cells? 0 (a.add (i * l.length)) l.length = some cs' ∧ Fits w l cs' := fun i hi => by
              obtain ⟨cs', h1, h2⟩ := hx i (by omega)
              grind
            obtain ⟨C, hC⟩ := Go.Deep.choose_lt hrow
            have hcell : ∀ i j c, i < len → l[j]? = some c → ∃ p : Value × AV, w.cell? (a.add (i * l.length + j)) = some p.1 ∧ CellOk c p.2 ∧ Rel noB w p.2 p.1 ∧ p.1.oneCell' = true := fun i j c hi hj => by
              obtain ⟨h1, h2⟩ := hC i hi
              obtain ⟨v, av, g1, g2, g3, g4⟩ := h2.cell j c hj
              obtain ⟨_, k1, k2⟩ := World.cells?_some h1
              refine ⟨(v, av), ?_, g2, g3, g4⟩
              grind [List.getElem?_eq_some_iff,Go.Deep.add_add]
            have hex : ∀ i, i < len → ∃ g : Nat → Value × AV, ∀ j, j < l.length → ∃ c, l[j]? = some c ∧ w.cell? (a.add (i * l.length + j)) = some (g j).1 ∧ CellOk c (g j).2 ∧ Rel noB w (g j).2 (g j).1 ∧ (g j).1.oneCell' = true := fun i hi => by
              have : Inhabited (Value × AV) := ⟨(.bool true, .junk)⟩
              exact Go.Deep.choose_lt (p := fun j (g : Value × AV) => ∃ c, l[j]? = some c ∧ w.cell? (a.add (i * l.length + j)) = some g.1 ∧ CellOk c g.2 ∧ Rel noB w g.2 g.1 ∧ g.1.oneCell' = true) (fun j hj => by simp_all)
            have : Inhabited (Nat → Value × AV) := ⟨fun _ => (.bool true, .junk)⟩
            obtain ⟨G, hG⟩ := Go.Deep.choose_lt hex
            refine .one (a := .isl l.length len fun i j => (G i j).2) (.sl (by omega) (fun i j c hi hj => ?_)) ?_ rfl
            · grind
            · rcases Nat.eq_zero_or_pos len with rfl | hpos
              · exact .isl0 (fun h => by cases h)
              · obtain ⟨b, off, spot⟩ := a
                have hspot : spot = none := by
                  obtain ⟨c', _, g2, _⟩ := hG 0 hpos 0 hc.2
                  have := World.cell?_spot g2
                  grind [Addr.add]
                subst hspot
                refine .isl (fun i j => (G i j).1) hc.2 hlc (noB_free b) (fun i j hi hj => ?_) (fun i j hi hj => ?_) (fun i j hi hj => ?_) (fun i j hi hj => ?_)
                · obtain ⟨c', _, g2, _⟩ := hG i hi j hj
                  rw [← g2]
                  congr 1
                  unfold Addr.add
                  split
                  · simp
                  grind
                · grind
                · grind
                · obtain ⟨c', _, _, _, g4, _⟩ := hG i hi j hj; exact g4.closed
        grind
      · rename_i fs hu
        split at hsh
        · rename_i l hl
          obtain ⟨hc, h2⟩ := bif_some hsh
          clear hsh
          have h3 : l = ts := Option.some.inj h2
          subst h3
          have e1 := Nat.eq_of_beq_eq_true hc
          simp only [DataW.trod, hu] at htr
          split at htr
          · rename_i hlen
            obtain ⟨xs, hxs, _⟩ := Option.map_eq_some_iff.1 htr
            have := fits_fields (w := w) (P := P) (cs := cs) fs.toList 0 l hl (fun f hf lf hlf => by
              obtain ⟨y, hy⟩ := mapM_each hxs hf
              grind)
            grind
          grind
        grind
      · rename_i n e hu
        split at hsh
        · rename_i l hl
          obtain ⟨hc, h2⟩ := bif_some hsh
          clear hsh
          cases h2
          rw [Bool.and_eq_true] at hc
          have e1 := Nat.eq_of_beq_eq_true hc.1
          have e2 := Nat.eq_of_beq_eq_true hc.2
          simp only [DataW.trod, hu] at htr
          split at htr
          · rename_i hlen
            obtain ⟨xs, hxs, _⟩ := Option.map_eq_some_iff.1 htr
            have := fits_elems (w := w) (cs := cs) (l := l) n (fun i hi => by
              obtain ⟨y, hy⟩ := mapM_each hxs (List.mem_range.2 hi)
              grind)
            grind
          grind
        grind
      grind

end

section
variable {H : Type} {enc : TypeId × Value → H} {P : Program}

theorem trodAll_stays {W W' : World} {sp' : Nat → Bool} (hl : laidOutB P = true) : ∀ {ts : List TypeId} {vs : List Value} {ds : List (DataW H)} {ps : List MemPlace},
    (∀ t, t ∈ ts → P.readableRec t = true ∧ t < P.types.size) → DataW.TrodAll enc P W 0 (fun _ => true) true ts vs ds ps → (∀ p ∈ ps, W.sameAt W' p) → (∀ p ∈ ps, sp' p.block = true) →
    DataW.TrodAll enc P W' 0 sp' true ts vs ds ps
  | [], [], [], _, _, h, _, _ => h
  | t :: ts, v :: vs, d :: ds, ps, hr, h, hs, hp => by
    obtain ⟨p, q, h1, h2, rfl⟩ := h
    refine ⟨p, q, WideElems.Trod_stays hl (hr t (by simp)).1 (hr t (by simp)).2 h1 (fun x hx => hs x (by grind)) (fun x hx => hp x (by grind)), ?_, rfl⟩
    exact trodAll_stays hl (fun t ht => hr t (by grind)) h2 (fun x hx => hs x (by grind)) (fun x hx => hp x (by grind))
  | [], _ :: _, _, _, _, h, _, _ => h.elim
  | [], [], _ :: _, _, _, h, _, _ => h.elim
  | _ :: _, [], _, _, _, h, _, _ => h.elim
  | _ :: _, _ :: _, [], _, _, h, _, _ => h.elim

theorem keptBut_of_below {W W' : World} (hb : Below W.heap.size W W') (may : MemPlace → Prop) : W.keptBut W' may := by
  refine ⟨hb.os, hb.output, fun i hi => ?_⟩
  rw [hb.block i hi]
  grind

def readB (P : Program) (ts : List TypeId) : Bool := ts.all fun t => P.readableRec t && Nat.blt t P.types.size

theorem readB_ok {ts : List TypeId} (h : readB P ts = true) : ∀ t, t ∈ ts → P.readableRec t = true ∧ t < P.types.size := by
  intro t ht
  have := List.all_eq_true.1 h t ht
  simp_all

theorem post_law {f : Func} {s : ChangeSpec} {apart fresh handsOn again : Bool} {W W' : World} {args : Array Value} {ds gs : List (DataW H)} {before : List MemPlace} {tb : TypeId}
    (hl : laidOutB P = true) (hvars : s.vars = []) (hrt : f.resultTypes = #[tb]) (htb : P.underlying tb = some .bool) (hrd : readB P f.params.toList = true)
    (hW : DataW.Whole enc P f.params.toList s.vars apart W args.toList ds gs before) (hb : Below W.heap.size W W')
    (hs : s.fn H ds = { results := [.lit (.bool true)], args := ds }) :
    s.post enc P f apart fresh handsOn again W args (.bool true) W' := by
  have hW0 := hW
  obtain ⟨p, q, hA, hV, rfl, hz, hn⟩ := hW
  rw [hvars] at hV
  obtain ⟨rfl, rfl⟩ := trodVars_none hV
  have hlt : ∀ x ∈ p, x.block < W.heap.size := fun x hx => hA.lt x hx
  have hst : ∀ sp : Nat → Bool, (∀ x ∈ p, sp x.block = true) → DataW.TrodAll enc P W' 0 sp true f.params.toList args.toList ds p :=
    fun sp hsp => trodAll_stays hl (readB_ok hrd) hA (fun x hx => hb.same (hlt x hx)) hsp
  have hres : ∀ (b : Nat) (sp : Nat → Bool) (hd : Bool), DataW.TrodAll enc P W' b sp hd f.resultTypes.toList ((Value.bool true).resultList f.resultTypes.size) [.lit (.bool true)] [] := by
    intro b sp hd
    rw [hrt]
    exact ⟨[], [], shut_bool htb true, rfl, rfl⟩
  refine ⟨ds, [], p ++ [], [], p, [], hW0, ?_, ?_, ?_, keptBut_of_below hb _, fun _ => ?_⟩
  · grind
  · grind
  · rw [List.append_nil, hs, hvars]; rfl
  · refine ⟨ok_one hrt rfl (okWide_bool_mk htb true), _, [], ([] ++ p) ++ [], ⟨[] ++ p, [], trodAll_append (hst _ (fun _ _ => rfl)) (hres _ _ _), by rw [hvars]; rfl, rfl, ?_, ?_⟩, ?_⟩
    · intro b off hp
      simp only [List.nil_append, List.append_nil] at hp
      have := hlt _ hp
      rw [hb.frozen this]
      exact hz b off (by grind)
    · grind
    grind

end

theorem Pure.calls {P : Program} {gl : Globs} {f : FuncId} {args : List AV} (h : Pure P gl f args (.bool true)) {W : World} {vs : Array Value} (hg : GlobB gl noB W)
    (hr : Rels noB W args vs) {Q : Ending → World → Prop} (hQ : ∀ W', Below W.heap.size W W' → Q (.returned (.bool true)) W') : Calls P f vs W Q := by
  refine (h.use (fun _ hf => hf.elim) hg hr).mono ?_
  rintro e W' ⟨v, rfl, hb, hv⟩
  cases hv <;> grind

theorem Rels.nil {w : World} : Rels noB w [] #[] := ⟨rfl, fun j u x h => by simp⟩
theorem Rels.cons {w : World} {a : AV} {v : Value} {avs : List AV} {vs : List Value} (h : Rel noB w a v) (hr : Rels noB w avs vs.toArray) : Rels noB w (a :: avs) (v :: vs).toArray := by
  refine ⟨by have := hr.len; grind, fun j u x hu hx => ?_⟩
  cases j with
  | zero => grind
  | succ j => exact hr.rel j u x (by grind) (by grind)


theorem Fits.pick {w : World} {ts : List CT} {cs : List Value} (h : Fits w ts cs) : ∃ g : Nat → AV, ∀ (j : Nat) c, ts[j]? = some c → CellOk c (g j) ∧ ∃ v, cs[j]? = some v ∧ Rel noB w (g j) v := by
  have : Inhabited AV := ⟨.junk⟩
  obtain ⟨g, hg⟩ := Go.Deep.choose_lt (n := ts.length) (p := fun j a => ∀ c, ts[j]? = some c → CellOk c a ∧ ∃ v, cs[j]? = some v ∧ Rel noB w a v) (fun j hj => by
    obtain ⟨v, a, h1, h2, h3, _⟩ := h.cell j ts[j] (by simp)
    refine ⟨a, fun c hc => ?_⟩
    grind)
  exact ⟨g, fun j c hc => hg j (List.getElem?_eq_some_iff.1 hc).1 c hc⟩

theorem Fits.agg {w : World} {ts : List CT} {cs : List Value} (h : Fits w ts cs) {g : Nat → AV} (hg : ∀ (j : Nat) c, ts[j]? = some c → CellOk c (g j) ∧ ∃ v, cs[j]? = some v ∧ Rel noB w (g j) v) {l : List AV}
    (he : EntL [] ((List.range ts.length).map g) l) : Rel noB w (.agg l) (.agg cs.toArray) := by
  obtain ⟨h1, h2⟩ := he.spec
  simp at h1
  refine .agg (by rw [← h1]; simp [h.len]) fun j u v hu hv => ?_
  have hj : j < l.length := (List.getElem?_eq_some_iff.1 hu).1
  have hjt : j < ts.length := by omega
  obtain ⟨_, v', hv', hr⟩ := hg j ts[j] (by simp [hjt])
  have : v' = v := by
    have hv : cs[j]? = some v := by simpa using hv
    rw [hv'] at hv; exact Option.some.inj hv
  subst this
  exact h2 j (g j) u (by simp [hjt]) hu _ _ _ (fun k o hk => by simp at hk) hr

def islN : AV → Nat
  | .isl _ n _ => n
  | _ => 0
def islF : AV → Nat → Nat → AV
  | .isl _ _ f => f
  | _ => fun _ _ => .junk

theorem canonI_wf {k : IntKind} {a : AV} (h : CellOk (.int k) a) : (Lit.int k (intOfAV a)).wf = true := by cases h with | int h => exact h
theorem open_agg {H : Type} {enc : TypeId × Value → H} {P : Program} {W : World} {r : Reach} {b0 : Nat} {t : TypeId} {v : Value} {d : DataW H} {ps : List MemPlace} {sp : Nat → Bool} {ts : List CT} (ht : isAggT P t = some true)
    (hsh : shape P 9 t = some ts) (hv : Value.okWide P W r b0 t v) (h : DataW.Trod enc P W 0 sp true t v d ps) : ∃ cs : List Value, v = .agg cs.toArray ∧ Fits W ts cs := by
  obtain ⟨fuel, hf⟩ := h
  have : ∃ cs : Array Value, v = .agg cs := by grind [isAggT,okWide_struct,Value.okWide]
  obtain ⟨cs, rfl⟩ := this
  exact ⟨cs.toList, by simp, open_fits 9 t fuel _ _ ts hf hsh⟩

end Go.Am

namespace Go.Am
open Go

theorem laid_at {P : Program} {w : World} : ∀ {laid : List (String × DataW Unit)} {ps : List MemPlace}, DataW.LaidVars P w laid ps → ∀ {i : Nat} {n : String} {d : DataW Unit}, laid[i]? = some (n, d) →
    ∃ g t cs fuel p, P.globalNamed n = some g ∧ (P.globals[g]?).map (·.type) = some t ∧ w.var? P n = some cs ∧ DataW.trod (fun _ => ()) P w 0 (fun _ => true) false fuel t cs.toList = some (d, p)
  | [], _, _, i, n, d, h => by grind
  | (n', d') :: r, ps, ⟨g, t, cs, fuel, p, q, h1, h2, h3, h4, _, _⟩, 0, n, d, h => by grind
  | (n', d') :: r, ps, ⟨g, t, cs, fuel, p, q, h1, h2, h3, h4, h5, _⟩, i + 1, n, d, h => laid_at h5 (by simpa using h)

def arrOk (P : Program) (g n : Nat) (k : IntKind) : Bool :=
  match (P.globals[g]?).map (·.type) with
  | some t =>
    match P.underlying t with
    | some (.array m e) =>
      match P.underlying e with
      | some (.int k') => Nat.beq m n && Nat.beq (P.cellsOf e) 1 && (decide (k' = k) && Nat.beq (P.cellsOf t) n)
      | _ => false
    | _ => false
  | none => false
theorem arrOk_inv {P : Program} {g n : Nat} {k : IntKind} (h : arrOk P g n k = true) : ∃ t e, (P.globals[g]?).map (·.type) = some t ∧ P.underlying t = some (.array n e) ∧ P.underlying e = some (.int k) ∧ P.cellsOf e = 1 ∧ P.cellsOf t = n := by
  unfold arrOk at h
  split at h
  · rename_i t ht
    split at h
    · rename_i m e hu
      split at h
      · rename_i k' he
        simp only [Bool.and_eq_true, decide_eq_true_eq, Nat.beq_eq] at h
        grind
      grind
    grind
  grind

theorem glob_ints {P : Program} {w : World} {β : Book} {laid : List (String × DataW Unit)} (h : laidMetH P laid w) (hp : (laid.all fun x => x.2.handleName?.isNone) = true) (i : Nat) (name : String) {g n : Nat}
    {k : IntKind} {F : Nat → Int} (hl : laid[i]? = some (name, .agg ((List.range n).map fun j => .lit (.int k (F j))))) (hg : P.globalNamed name = some g) (ho : arrOk P g n k = true) (hn : 0 < n) (hb : β.free g) : GlobAt β w g n fun j => .int k (F j) := by
  obtain ⟨t, e, ht, hu, he, hc, hct⟩ := arrOk_inv ho
  rw [MakeChecks.laidMetH_plain _ _ _ hp] at h
  obtain ⟨ps, hv, _, _⟩ := h
  obtain ⟨g', t', cs, fuel, p, h1, h2, h3, h4⟩ := laid_at hv hl
  obtain rfl := Option.some.inj (hg.symm.trans h1)
  obtain rfl := Option.some.inj (ht.symm.trans h2)
  obtain ⟨xs, m, rfl, hx, hlen, hxl, hel⟩ := DataW.trod_array hu h4
  simp only [Prod.mk.injEq, DataW.agg.injEq] at hx
  obtain ⟨hx, _⟩ := hx
  have cell : ∀ j, j < n → cs[j]? = some (.int k (F j)) := fun j hj => by
    have hj' := hel j hj
    rw [hc, Nat.mul_one, List.getElem?_eq_getElem (by omega : j < xs.length)] at hj'
    obtain ⟨v, e1, e2, _⟩ := DataW.trod_int he hj'
    have e3 : (xs.map (·.1))[j]? = some (.lit (.int k v)) := by grind
    rw [← hx] at e3
    simp only [List.getElem?_map, List.getElem?_range hj, Option.map_some, Option.some.injEq, DataW.lit.injEq, Lit.int.injEq, true_and] at e3
    subst e3
    have e4 : (List.take 1 (List.drop j cs.toList))[0]? = some (.int k (F j)) := by grind
    grind
  have hsh : ∃ el, w.shape? g = some (el, n) := by
    unfold World.var? at h3
    rw [hg] at h3
    have hsz : cs.size = n := hlen.trans hct
    unfold World.shape?
    simp only [Option.bind_some] at h3
    split <;> simp_all
  refine ⟨?_, hsh⟩
  refine .ipt (fun j => .int k (F j)) hn hb (fun j hj => ?_) (fun _ _ => rfl) (fun _ _ => .int) (fun _ _ => .int)
  grind [World.var?_cell]
end Go.Am

namespace Go.Am
open Go Go.RowKit

theorem pure_of {P : Program} {gl : Globs} {f : FuncId} {args : List AV} {r : AV} (hE : Enters P f)
    (h : ∀ (β : Book) (w : World) (vs : Array Value), (∀ b, w.heap.size ≤ b → β.free b) → GlobB gl β w → Rels β w args vs → Calls P f vs w fun e w' => ∃ v, e = .returned v ∧ Below w.heap.size w w' ∧ Rel β w' r v) : Pure P gl f args r := by
  refine ⟨hE, fun β w vs hF hG hg ha => ?_⟩
  have hn : ∀ k, β.m k = none := fun k => hG.none k (Nat.zero_le _)
  refine (h β w vs (fun b hb => ⟨fun hf => absurd (hF b hf) (by omega), fun id n hm => by grind⟩) hg ha).mono fun e w' hh => ?_
  obtain ⟨v, he, hb, hr⟩ := hh
  exact ⟨v, β, he, Kept.ofBelow _ hb, ⟨rfl, fun k ob hk => by grind, fun k _ => hn k, (fun i j b n n' mu mu' e1 => by grind), (fun k b n mu e1 => by grind), (fun k o e1 => by grind)⟩, hr⟩

theorem rels1 {β : Book} {w : World} {a : AV} {vs : Array Value} (h : Rels β w [a] vs) : ∃ v, vs = #[v] ∧ Rel β w a v := by
  have hl := h.len
  match vs, hl, h with
  | ⟨[v]⟩, _, h => exact ⟨v, rfl, h.rel 0 _ _ rfl rfl⟩
theorem rels2 {β : Book} {w : World} {a b : AV} {vs : Array Value} (h : Rels β w [a, b] vs) : ∃ u v, vs = #[u, v] ∧ Rel β w a u ∧ Rel β w b v := by
  have hl := h.len
  match vs, hl, h with
  | ⟨[u, v]⟩, _, h => exact ⟨u, v, rfl, h.rel 0 _ _ rfl rfl, h.rel 1 _ _ rfl rfl⟩
theorem alloc_cell {w : World} {cs : Array Value} {t : TypeId} (j : Nat) : (w.alloc (.cells cs t)).cell? ⟨w.heap.size, j, none⟩ = cs[j]? := by simp

theorem glob_cell {β : Book} {w : World} {g m : Nat} {f : Nat → AV} (h : GlobAt β w g m f) {j : Nat} (hj : j < m) {k : IntKind} {n : Int} (e : f j = .int k n) : w.cell? ⟨g, j, none⟩ = some (.int k n) := by
  obtain ⟨b, off, vals, hu, _, _, hc, hr, _⟩ := rel_ipt_inv h.rel
  cases hu
  have := hr j hj
  rw [e] at this
  rw [← rel_int_inv this, ← hc j hj, Nat.zero_add]
theorem glob_tab {P : Program} {β : Book} {w : World} {name : String} {g : Nat} {k : IntKind} {zs : List Int} (hg : P.globalNamed name = some g) (h : GlobAt β w g zs.length fun j => .int k (zs.getD j 0)) : Lib.TabIs P w name k zs := by
  obtain ⟨el, e⟩ := h.size
  unfold World.shape? at e
  split at e
  · rename_i cs el' z hb
    simp only [Option.some.injEq, Prod.mk.injEq] at e
    unfold Lib.TabIs World.var?
    rw [hg, Option.bind_some, hb]
    show some cs = some _
    congr 1
    apply Array.ext
    · grind
    · intro j h1 h2
      have hj : j < zs.length := by omega
      have := glob_cell h hj (k := k) (n := zs.getD j 0) rfl
      grind [World.cell?,Array.getElem?_eq_getElem]
  grind
end Go.Am
namespace Go.Am
open Go Go.RowKit
end Go.Am

namespace Go.Sp
open Go.Lib

theorem pu_snoc : ∀ (l : List UInt8) (acc v : Nat) (c : UInt8), parseUint10 acc l = .ok v → 48 ≤ c.toNat ∧ c.toNat ≤ 57 → v < 1844674407370955161 → parseUint10 acc (l ++ [c]) = .ok (v * 10 + (c.toNat - 48))
  | [], acc, v, c, h, hc, hv => by
    simp only [parseUint10, NumEnd.ok.injEq] at h
    subst h
    simp only [List.nil_append, parseUint10]
    rw [if_pos hc, if_neg (by omega), if_neg (by omega)]
  | b :: r, acc, v, c, h, hc, hv => by
    simp only [parseUint10] at h
    rw [List.cons_append, parseUint10]
    split at h
    · rename_i h1
      rw [if_pos h1]
      split at h
      · cases h
      · rename_i h2
        rw [if_neg h2]
        split at h
        · cases h
        · rename_i h3
          rw [if_neg h3]
          exact pu_snoc r _ v c h hc hv
    · cases h
theorem ofNat_dig {d : Nat} (h : d < 10) : (UInt8.ofNat (48 + d)).toNat = 48 + d := by
  rw [UInt8.toNat_ofNat']; omega
theorem pu_dec : ∀ (u : Nat), u < 9223372036854775808 → parseUint10 0 (decDigits u) = .ok u := by
  intro u
  induction u using Nat.strongRecOn with
  | ind u ih =>
    intro hu
    rw [decDigits]
    split
    · rename_i h
      simp only [parseUint10]
      rw [ofNat_dig h, if_pos (by omega), if_neg (by omega), if_neg (by omega)]
      congr 1; omega
    · rename_i h
      have k := pu_snoc _ _ _ (UInt8.ofNat (48 + u % 10)) (ih (u / 10) (by omega) (by omega)) (by rw [ofNat_dig (by omega)]; omega) (by omega)
      rw [k, ofNat_dig (by omega)]
      congr 1; omega
theorem dec_digit {u : Nat} : ∀ c ∈ decDigits u, 48 ≤ c.toNat ∧ c.toNat ≤ 57 := by
  induction u using Nat.strongRecOn with
  | ind u ih =>
    intro c hc
    rw [decDigits] at hc
    split at hc
    · rename_i h
      obtain rfl := List.mem_singleton.1 hc
      rw [ofNat_dig h]; omega
    · rename_i h
      rcases List.mem_append.1 hc with hc | hc
      · exact ih (u / 10) (by omega) c hc
      · obtain rfl := List.mem_singleton.1 hc
        rw [ofNat_dig (by omega)]; omega
theorem dec_ne (u : Nat) : decDigits u ≠ [] := by
  rw [decDigits]; split <;> simp
theorem atoi_dec {u : Nat} (h : u < 9223372036854775808) : atoiAll (decDigits u) = .ok (u : Int) := by
  cases hd : decDigits u with
  | nil => exact absurd hd (dec_ne u)
  | cons c r =>
    have hc := dec_digit (u := u) c (by rw [hd]; exact List.mem_cons_self ..)
    rw [atoiAll_plain c r (by omega) (by omega), ← hd]
    have : parseMag (decDigits u) = .ok u := by
      unfold parseMag; rw [if_neg (dec_ne u)]; exact pu_dec u h
    rw [this]
    unfold signless
    simp only
    rw [if_neg (by omega)]
abbrev Str := List UInt8
def numC (s : Str) : Option Int := match atoiAll s with
  | .ok n => if 0 ≤ n ∧ n ≤ 1099511627776 ∧ itoa n = s then some n else none
  | _ => none
theorem numC_iff {s : Str} {n : Int} : numC s = some n ↔ s = itoa n ∧ 0 ≤ n ∧ n ≤ 1099511627776 := by
  constructor
  · intro h
    unfold numC at h
    split at h
    · split at h
      · rename_i h1 h2
        cases h
        exact ⟨h2.2.2.symm, h2.1, h2.2.1⟩
      · cases h
    · cases h
  · rintro ⟨rfl, h1, h2⟩
    obtain ⟨u, rfl⟩ := Int.eq_ofNat_of_zero_le h1
    unfold numC
    rw [itoa_nonneg, atoi_dec (by omega)]
    simp only
    rw [if_pos ⟨by omega, by omega, itoa_nonneg u⟩]
theorem itoa_ne (n : Int) : itoa n ≠ [] := by
  unfold itoa; split
  · simp
  · exact dec_ne _

structure Cmd where
  kind : Int
  who : Int
  whom : Int
  amount : Int
  honest : Bool
def Cmd.zero : Cmd := ⟨0, 0, 0, 0, false⟩
def Cmd.set (a : Cmd) : Nat → Int → Cmd
  | 1, n => { a with who := n }
  | 2, n => { a with whom := n }
  | _, n => { a with amount := n }
def wWho : Str := [87, 72, 79]
def wWhom : Str := [87, 72, 79, 77]
def wAmount : Str := [65, 77, 79, 85, 78, 84]
def fieldN (w : Str) : Nat := if w = wWho then 1 else if w = wWhom then 2 else if w = wAmount then 3 else 0
structure Form where
  kind : Int
  ws : List Str
  whom : Int
def wWithdraw : Str := [119, 105, 116, 104, 100, 114, 97, 119]
def wPay : Str := [112, 97, 121]
def wTransfer : Str := [116, 114, 97, 110, 115, 102, 101, 114]
def wDeposit : Str := [100, 101, 112, 111, 115, 105, 116]
def wMerchant : Str := [109, 101, 114, 99, 104, 97, 110, 116]
def wHolder : Str := [104, 111, 108, 100, 101, 114]
def wDouble : Str := [100, 111, 117, 98, 108, 101]
def wTrace : Str := [116, 114, 97, 99, 101]
def wClear : Str := [99, 108, 101, 97, 114]
def wTick : Str := [116, 105, 99, 107]
def stepM (a : Cmd) (p w : Str) : Option Cmd := if fieldN p = 0 then (if w = p then some a else none) else (numC w).map fun n => a.set (fieldN p) n
def goM : Cmd → List Str → List Str → Option Cmd
  | a, [], [] => some a
  | a, p :: ps, w :: ws => (stepM a p w).bind fun b => goM b ps ws
  | _, _, _ => none
theorem goM_cons {a b : Cmd} {p : Str} {ps ws : List Str} : goM a (p :: ps) ws = some b ↔ ∃ w r c, ws = w :: r ∧ stepM a p w = some c ∧ goM c ps r = some b := by
  cases ws with
  | nil => simp [goM]
  | cons w r =>
    rw [goM, Option.bind_eq_some_iff]
    constructor
    · rintro ⟨c, h1, h2⟩; exact ⟨w, r, c, rfl, h1, h2⟩
    · rintro ⟨w', r', c, h, h1, h2⟩; cases h; exact ⟨c, h1, h2⟩
theorem goM_nil {a b : Cmd} {ws : List Str} : goM a [] ws = some b ↔ ws = [] ∧ a = b := by
  cases ws with
  | nil => simp [goM]
  | cons w r => simp [goM]
def okN (n : Int) : Prop := 0 ≤ n ∧ n ≤ 1099511627776
theorem stepM_w {a c : Cmd} {p w : Str} (h : fieldN p = 0) : stepM a p w = some c ↔ w = p ∧ a = c := by
  unfold stepM; rw [if_pos h]
  constructor
  · intro k
    split at k
    · rename_i e; cases k; exact ⟨e, rfl⟩
    · cases k
  · rintro ⟨rfl, rfl⟩; rw [if_pos rfl]
theorem stepM_n {a c : Cmd} {p w : Str} {k : Nat} (h : fieldN p = k + 1) : stepM a p w = some c ↔ ∃ n, w = itoa n ∧ okN n ∧ a.set (k + 1) n = c := by
  unfold stepM; rw [h, if_neg (by omega), Option.map_eq_some_iff]
  constructor
  · rintro ⟨n, h1, rfl⟩; exact ⟨n, (numC_iff.1 h1).1, (numC_iff.1 h1).2, rfl⟩
  · rintro ⟨n, rfl, h1, rfl⟩; exact ⟨n, numC_iff.2 ⟨rfl, h1⟩, rfl⟩
inductive Lin : Cmd → List Str → Prop
  | withdraw {x y : Int} (hx : okN x) (hy : okN y) : Lin ⟨1, x, 0, y, true⟩ [wWithdraw, itoa x, itoa y]
  | pay {x y z : Int} (hx : okN x) (hy : okN y) (hz : okN z) : Lin ⟨2, x, y, z, true⟩ [wPay, itoa x, itoa y, itoa z]
  | transfer {x y z : Int} (hx : okN x) (hy : okN y) (hz : okN z) : Lin ⟨3, x, y, z, true⟩ [wTransfer, itoa x, itoa y, itoa z]
  | merchant {x : Int} (hx : okN x) : Lin ⟨4, x, 0, 0, true⟩ [wDeposit, wMerchant, itoa x]
  | holder {x : Int} (hx : okN x) : Lin ⟨4, x, 1, 0, true⟩ [wDeposit, wHolder, itoa x]
  | double {x y z : Int} (hx : okN x) (hy : okN y) (hz : okN z) : Lin ⟨5, x, y, z, false⟩ [wDouble, itoa x, itoa y, itoa z]
  | trace {x : Int} (hx : okN x) : Lin ⟨6, x, 0, 0, true⟩ [wTrace, itoa x]
  | clear : Lin ⟨7, 0, 0, 0, true⟩ [wClear]
  | tick {x : Int} (hx : okN x) : Lin ⟨8, 0, 0, x, true⟩ [wTick, itoa x]
theorem f_who : fieldN wWho = 0 + 1 := by decide
theorem f_whom : fieldN wWhom = 1 + 1 := by decide
theorem f_am : fieldN wAmount = 2 + 1 := by decide
theorem m1 {k : Int} {b : Bool} {W : Str} (h : fieldN W = 0) {ws : List Str} {a : Cmd} : goM ⟨k, 0, 0, 0, b⟩ [W, wWho, wAmount] ws = some a ↔ ∃ x y, okN x ∧ okN y ∧ ws = [W, itoa x, itoa y] ∧ a = ⟨k, x, 0, y, b⟩ := by
  simp only [goM_cons, goM_nil, stepM_w h, stepM_n f_who, stepM_n f_am]
  constructor
  · rintro ⟨w, r, c, rfl, ⟨rfl, rfl⟩, w1, r1, c1, rfl, ⟨x, rfl, hx, rfl⟩, w2, r2, c2, rfl, ⟨y, rfl, hy, rfl⟩, rfl, rfl⟩
    exact ⟨x, y, hx, hy, rfl, rfl⟩
  · rintro ⟨x, y, hx, hy, rfl, rfl⟩
    exact ⟨_, _, _, rfl, ⟨rfl, rfl⟩, _, _, _, rfl, ⟨x, rfl, hx, rfl⟩, _, _, _, rfl, ⟨y, rfl, hy, rfl⟩, rfl, rfl⟩
theorem m2 {k : Int} {b : Bool} {W : Str} (h : fieldN W = 0) {ws : List Str} {a : Cmd} : goM ⟨k, 0, 0, 0, b⟩ [W, wWho, wWhom, wAmount] ws = some a ↔ ∃ x y z, okN x ∧ okN y ∧ okN z ∧ ws = [W, itoa x, itoa y, itoa z] ∧ a = ⟨k, x, y, z, b⟩ := by
  simp only [goM_cons, goM_nil, stepM_w h, stepM_n f_who, stepM_n f_whom, stepM_n f_am]
  constructor
  · rintro ⟨w, r, c, rfl, ⟨rfl, rfl⟩, w1, r1, c1, rfl, ⟨x, rfl, hx, rfl⟩, w2, r2, c2, rfl, ⟨y, rfl, hy, rfl⟩, w3, r3, c3, rfl, ⟨z, rfl, hz, rfl⟩, rfl, rfl⟩
    exact ⟨x, y, z, hx, hy, hz, rfl, rfl⟩
  · rintro ⟨x, y, z, hx, hy, hz, rfl, rfl⟩
    exact ⟨_, _, _, rfl, ⟨rfl, rfl⟩, _, _, _, rfl, ⟨x, rfl, hx, rfl⟩, _, _, _, rfl, ⟨y, rfl, hy, rfl⟩, _, _, _, rfl, ⟨z, rfl, hz, rfl⟩, rfl, rfl⟩
theorem m3 {k m : Int} {b : Bool} {W V : Str} (h : fieldN W = 0) (h' : fieldN V = 0) {ws : List Str} {a : Cmd} : goM ⟨k, 0, m, 0, b⟩ [W, V, wWho] ws = some a ↔ ∃ x, okN x ∧ ws = [W, V, itoa x] ∧ a = ⟨k, x, m, 0, b⟩ := by
  simp only [goM_cons, goM_nil, stepM_w h, stepM_w h', stepM_n f_who]
  constructor
  · rintro ⟨w, r, c, rfl, ⟨rfl, rfl⟩, w1, r1, c1, rfl, ⟨rfl, rfl⟩, w2, r2, c2, rfl, ⟨x, rfl, hx, rfl⟩, rfl, rfl⟩
    exact ⟨x, hx, rfl, rfl⟩
  · rintro ⟨x, hx, rfl, rfl⟩
    exact ⟨_, _, _, rfl, ⟨rfl, rfl⟩, _, _, _, rfl, ⟨rfl, rfl⟩, _, _, _, rfl, ⟨x, rfl, hx, rfl⟩, rfl, rfl⟩
theorem m4 {k : Int} {b : Bool} {W : Str} (h : fieldN W = 0) {ws : List Str} {a : Cmd} : goM ⟨k, 0, 0, 0, b⟩ [W, wWho] ws = some a ↔ ∃ x, okN x ∧ ws = [W, itoa x] ∧ a = ⟨k, x, 0, 0, b⟩ := by
  simp only [goM_cons, goM_nil, stepM_w h, stepM_n f_who]
  constructor
  · rintro ⟨w, r, c, rfl, ⟨rfl, rfl⟩, w2, r2, c2, rfl, ⟨x, rfl, hx, rfl⟩, rfl, rfl⟩
    exact ⟨x, hx, rfl, rfl⟩
  · rintro ⟨x, hx, rfl, rfl⟩
    exact ⟨_, _, _, rfl, ⟨rfl, rfl⟩, _, _, _, rfl, ⟨x, rfl, hx, rfl⟩, rfl, rfl⟩
theorem m5 {k : Int} {b : Bool} {W : Str} (h : fieldN W = 0) {ws : List Str} {a : Cmd} : goM ⟨k, 0, 0, 0, b⟩ [W] ws = some a ↔ ws = [W] ∧ a = ⟨k, 0, 0, 0, b⟩ := by
  simp only [goM_cons, goM_nil, stepM_w h]
  constructor
  · rintro ⟨w, r, c, rfl, ⟨rfl, rfl⟩, rfl, rfl⟩
    exact ⟨rfl, rfl⟩
  · rintro ⟨rfl, rfl⟩
    exact ⟨_, _, _, rfl, ⟨rfl, rfl⟩, rfl, rfl⟩
theorem m6 {k : Int} {b : Bool} {W : Str} (h : fieldN W = 0) {ws : List Str} {a : Cmd} : goM ⟨k, 0, 0, 0, b⟩ [W, wAmount] ws = some a ↔ ∃ x, okN x ∧ ws = [W, itoa x] ∧ a = ⟨k, 0, 0, x, b⟩ := by
  simp only [goM_cons, goM_nil, stepM_w h, stepM_n f_am]
  constructor
  · rintro ⟨w, r, c, rfl, ⟨rfl, rfl⟩, w2, r2, c2, rfl, ⟨x, rfl, hx, rfl⟩, rfl, rfl⟩
    exact ⟨x, hx, rfl, rfl⟩
  · rintro ⟨x, hx, rfl, rfl⟩
    exact ⟨_, _, _, rfl, ⟨rfl, rfl⟩, _, _, _, rfl, ⟨x, rfl, hx, rfl⟩, rfl, rfl⟩

def okB (b : UInt8) : Prop := b ≠ 32 ∧ b ≠ 9 ∧ b ≠ 35 ∧ b ≠ 10

theorem len1 {α : Type} {l : List α} (h : l.length = 1) : ∃ a, l = [a] := List.length_eq_one_iff.1 h
theorem len2 {α : Type} {l : List α} (h : l.length = 2) : ∃ a b, l = [a, b] := by
  match l, h with | [a, b], _ => exact ⟨a, b, rfl⟩
theorem len3 {α : Type} {l : List α} (h : l.length = 3) : ∃ a b c, l = [a, b, c] := by
  match l, h with | [a, b, c], _ => exact ⟨a, b, c, rfl⟩

end Go.Sp

namespace Go.Sp
open Go Go.Am Go.Lib
abbrev bs (l : Str) : ByteArray := ⟨l.toArray⟩
theorem bs_data (l : Str) : (bs l).data.toList = l := rfl
theorem bs_size (l : Str) : (bs l).size = l.length := rfl
theorem bs_app (a b : Str) : bs a ++ bs b = bs (a ++ b) := by
  apply ByteArray.ext
  rw [ByteArray.data_append]
  simp
theorem bs_ext (l : Str) (a n : Nat) : (bs l).extract a (a + n) = bs ((l.drop a).take n) := by
  apply ByteArray.ext
  apply Array.toList_inj.1
  simp [ByteArray.data_extract]
theorem bs_toList (l : Str) : (bs l).toList = l := ByteArray.toList_mk l
def Cmd.cells (a : Cmd) : List AV := [.int .i64 a.kind, .int .i64 a.who, .int .i64 a.whom, .int .i64 a.amount, .bool a.honest]
end Go.Sp

namespace Go.Sp
open Go Go.Am Go.Lib
def numVal (s : Str) : Int := match atoiAll s with | .ok n => n | NumEnd.syntax => 0 | .range => atoiSat s
theorem num_val {s : Str} {n : Int} (h : numC s = some n) : numVal s = n := by
  unfold numC at h
  unfold numVal
  split at h
  · split at h
    · rename_i e _; rw [e]; exact Option.some.inj h
    · cases h
  · cases h
theorem num_some {s : Str} (h : (numC s).isSome = true) : s = itoa (numVal s) ∧ okN (numVal s) := by
  obtain ⟨n, hn⟩ := Option.isSome_iff_exists.1 h
  rw [num_val hn]
  exact numC_iff.1 hn
theorem eqSt (a b : Str) : ((bs a).toList == (bs b).toList) = decide (a = b) := by
  rw [bs_toList, bs_toList]
  by_cases h : a = b
  · rw [h]; simp
  · rw [decide_eq_false h]; exact beq_false_of_ne h
theorem eqT {a b : Str} (h : ((bs a).toList == (bs b).toList) = true) : a = b := by rw [eqSt] at h; exact of_decide_eq_true h
section
variable {k m : Int} {b : Bool} {W V : Str} {ws : List Str}
theorem s1 (h : fieldN W = 0) (hl : (ws.length : Int) = ((3 : Nat) : Int)) (h0 : ((bs (ws.getD 0 [])).toList == (bs W).toList) = true) (h1 : (numC (ws.getD 1 [])).isSome = true) (h2 : (numC (ws.getD 2 [])).isSome = true) :
    goM ⟨k, 0, 0, 0, b⟩ [W, wWho, wAmount] ws = some ⟨k, numVal (ws.getD 1 []), 0, numVal (ws.getD 2 []), b⟩ := by
  obtain ⟨x, y, z, rfl⟩ := len3 (show ws.length = 3 by omega)
  obtain rfl : x = W := eqT h0
  have g1 := num_some (s := y) h1
  have g2 := num_some (s := z) h2
  exact (m1 h).2 ⟨_, _, g1.2, g2.2, by rw [← g1.1, ← g2.1], rfl⟩
theorem s2 (h : fieldN W = 0) (hl : (ws.length : Int) = ((4 : Nat) : Int)) (h0 : ((bs (ws.getD 0 [])).toList == (bs W).toList) = true) (h1 : (numC (ws.getD 1 [])).isSome = true) (h2 : (numC (ws.getD 2 [])).isSome = true) (h3 : (numC (ws.getD 3 [])).isSome = true) :
    goM ⟨k, 0, 0, 0, b⟩ [W, wWho, wWhom, wAmount] ws = some ⟨k, numVal (ws.getD 1 []), numVal (ws.getD 2 []), numVal (ws.getD 3 []), b⟩ := by
  obtain ⟨x, y, z, v, rfl⟩ : ∃ x y z v, ws = [x, y, z, v] := by
    match ws, (show ws.length = 4 by omega) with
    | [x, y, z, v], _ => exact ⟨x, y, z, v, rfl⟩
  obtain rfl : x = W := eqT h0
  have g1 := num_some (s := y) h1
  have g2 := num_some (s := z) h2
  have g3 := num_some (s := v) h3
  exact (m2 h).2 ⟨_, _, _, g1.2, g2.2, g3.2, by rw [← g1.1, ← g2.1, ← g3.1], rfl⟩
theorem s3 (h : fieldN W = 0) (h' : fieldN V = 0) (hl : (ws.length : Int) = ((3 : Nat) : Int)) (h0 : ((bs (ws.getD 0 [])).toList == (bs W).toList) = true) (h1 : ((bs (ws.getD 1 [])).toList == (bs V).toList) = true) (h2 : (numC (ws.getD 2 [])).isSome = true) :
    goM ⟨k, 0, m, 0, b⟩ [W, V, wWho] ws = some ⟨k, numVal (ws.getD 2 []), m, 0, b⟩ := by
  obtain ⟨x, y, z, rfl⟩ := len3 (show ws.length = 3 by omega)
  obtain rfl : x = W := eqT h0
  obtain rfl : y = V := eqT h1
  have g2 := num_some (s := z) h2
  exact (m3 h h').2 ⟨_, g2.2, by rw [← g2.1], rfl⟩
theorem s4 (h : fieldN W = 0) (hl : (ws.length : Int) = ((2 : Nat) : Int)) (h0 : ((bs (ws.getD 0 [])).toList == (bs W).toList) = true) (h1 : (numC (ws.getD 1 [])).isSome = true) :
    goM ⟨k, 0, 0, 0, b⟩ [W, wWho] ws = some ⟨k, numVal (ws.getD 1 []), 0, 0, b⟩ := by
  obtain ⟨x, y, rfl⟩ := len2 (show ws.length = 2 by omega)
  obtain rfl : x = W := eqT h0
  have g1 := num_some (s := y) h1
  exact (m4 h).2 ⟨_, g1.2, by rw [← g1.1], rfl⟩
theorem s5 (h : fieldN W = 0) (hl : (ws.length : Int) = ((1 : Nat) : Int)) (h0 : ((bs (ws.getD 0 [])).toList == (bs W).toList) = true) : goM ⟨k, 0, 0, 0, b⟩ [W] ws = some ⟨k, 0, 0, 0, b⟩ := by
  obtain ⟨x, rfl⟩ := len1 (show ws.length = 1 by omega)
  obtain rfl : x = W := eqT h0
  exact (m5 h).2 ⟨rfl, rfl⟩
theorem s6 (h : fieldN W = 0) (hl : (ws.length : Int) = ((2 : Nat) : Int)) (h0 : ((bs (ws.getD 0 [])).toList == (bs W).toList) = true) (h1 : (numC (ws.getD 1 [])).isSome = true) :
    goM ⟨k, 0, 0, 0, b⟩ [W, wAmount] ws = some ⟨k, 0, 0, numVal (ws.getD 1 []), b⟩ := by
  obtain ⟨x, y, rfl⟩ := len2 (show ws.length = 2 by omega)
  obtain rfl : x = W := eqT h0
  have g1 := num_some (s := y) h1
  exact (m6 h).2 ⟨_, g1.2, by rw [← g1.1], rfl⟩
end
end Go.Sp
namespace Go.Sp
open Go Go.Am Go.Lib
end Go.Sp
namespace Go.Sp
open Go Go.Am Go.Lib
end Go.Sp

namespace Go.Am
open Go.RowKit

def boolOfAV : AV → Bool
  | .bool b => b
  | _ => false
def strOfAV : AV → ByteArray
  | .str s => s
  | _ => .empty

def homCT : List CT → Option IntKind
  | [.int k] => some k
  | .int k :: cs => match homCT cs with
    | some k' => bif decide (k = k') then some k else none
    | none => none
  | _ => none

theorem homCT_at : ∀ {cs : List CT} {k : IntKind}, homCT cs = some k → ∀ c, c ∈ cs → c = .int k
  | [], _, h => by simp
  | [c0], k, h => by
    intro c hc
    cases c0 <;> simp [homCT] at h
    grind
  | c0 :: c1 :: cs, k, h => by
    cases c0 <;> simp only [homCT, reduceCtorEq] at h
    rename_i k0
    cases hr : homCT (c1 :: cs) with
    | none => grind
    | some k' =>
      rw [hr] at h
      simp only at h
      obtain ⟨h1, h2⟩ := bif_some h
      cases h2
      have h1 := of_decide_eq_true h1
      subst h1
      intro c hc
      rcases List.mem_cons.1 hc with rfl | hc
      · rfl
      · exact homCT_at hr c hc

mutual
def canon : CT → AV → AV
  | .int k, a => .int k (intOfAV a)
  | .bool, a => .bool (boolOfAV a)
  | .str, a => .str (strOfAV a)
  | .sl cs, a => .isl cs.length (islN a) (match homCT cs with
    | some k => fun i j => .int k (intOfAV (islF a i (bif Nat.beq cs.length 1 then 0 else j)))
    | none => fun i j => atL (canonRow cs (fun q => islF a i q) 0) j)
def canonRow : List CT → (Nat → AV) → Nat → List AV
  | [], _, _ => []
  | c :: cs, g, n => canon c (g n) :: canonRow cs g (n + 1)
end

theorem canonRow_get : ∀ (cs : List CT) (g : Nat → AV) (n j : Nat) (c : CT), cs[j]? = some c → (canonRow cs g n)[j]? = some (canon c (g (n + j)))
  | [], _, _, _, _, h => by grind
  | c :: cs, g, n, 0, c', h => by grind [canonRow]
  | c :: cs, g, n, j + 1, c', h => by
    simp at h
    simp only [canonRow, List.getElem?_cons_succ]
    rw [canonRow_get cs g (n + 1) j c' h, show n + 1 + j = n + (j + 1) by omega]
theorem canonRow_length : ∀ (cs : List CT) (g : Nat → AV) (n : Nat), (canonRow cs g n).length = cs.length
  | [], _, _ => rfl
  | c :: cs, g, n => by simp [canonRow,canonRow_length]

theorem Ent.islE {os : List (Option Ob)} {es n : Nat} {f g : Nat → Nat → AV} (h : ∀ i j, i < n → j < es → Ent os (f i j) (g i j) ∧ Cl (g i j)) : Ent os (.isl es n f) (.isl es n g) := fun β w v hh hr => by
  cases hr with
  | isl vals he hcap hb hc ho hr hcl => exact .isl vals he hcap hb hc ho (fun i j hi hj => (h i j hi hj).1 β w _ hh (hr i j hi hj)) (fun i j hi hj => (h i j hi hj).2)
  | isl0 h' => exact .isl0 h'

theorem canon_ent {os : List (Option Ob)} {c : CT} {a : AV} (h : CellOk c a) : Ent os a (canon c a) ∧ Cl (canon c a) := by
  induction h with
  | int h => exact ⟨Ent.of_eq (by rfl), by unfold canon; exact .int⟩
  | bool => exact ⟨Ent.of_eq (by rfl), by unfold canon; exact .bool⟩
  | str h => exact ⟨Ent.of_eq (by rfl), by unfold canon; exact .str⟩
  | @sl cs n f hn h ih =>
    have key : ∀ i j, i < n → j < cs.length → ∃ c, cs[j]? = some c ∧ atL (canonRow cs (fun q => f i q) 0) j = canon c (f i j) := fun i j hi hj => by simp_all [atL,List.getD_eq_getElem?_getD,canonRow_get]
    unfold canon
    cases hh : homCT cs with
    | none =>
      refine ⟨Ent.islE fun i j hi hj => ?_, .isl fun i j hi hj => ?_⟩
      · obtain ⟨c, h1, h2⟩ := key i j hi hj
        show Ent os (f i j) (atL (canonRow cs (fun q => f i q) 0) j) ∧ Cl (atL (canonRow cs (fun q => f i q) 0) j)
        grind
      · obtain ⟨c, h1, h2⟩ := key i j hi hj
        show Cl (atL (canonRow cs (fun q => f i q) 0) j)
        rw [h2]
        exact (ih i j c hi h1).2
    | some k =>
      refine ⟨Ent.islE fun i j hi hj => ⟨Ent.of_eq ?_, .int⟩, .isl fun i j hi hj => .int⟩
      show f i j = .int k (intOfAV (f i (bif Nat.beq cs.length 1 then 0 else j)))
      have hj' : (bif Nat.beq cs.length 1 then 0 else j) = j := by grind [Nat.beq,Nat.eq_of_beq_eq_true]
      rw [hj']
      have hc : cs[j]? = some cs[j] := by simp
      have := h i j _ hi hc
      rw [homCT_at hh cs[j] (List.getElem_mem hj)] at this
      generalize f i j = q at this
      cases this
      rfl

theorem Fits.canon {w : World} {ts : List CT} {cs : List Value} (h : Fits w ts cs) : ∃ g : Nat → AV, (∀ (j : Nat) c, ts[j]? = some c → CellOk c (g j)) ∧ Rel noB w (.agg (canonRow ts g 0)) (.agg cs.toArray) := by
  obtain ⟨g, hg⟩ := h.pick
  refine ⟨g, fun j c hc => (hg j c hc).1, ?_⟩
  refine .agg (by simp [canonRow_length, h.len]) fun j u v hu hv => ?_
  have hj : j < ts.length := by grind [canonRow_length,List.getElem?_eq_some_iff]
  have hc : ts[j]? = some ts[j] := by simp
  rw [canonRow_get ts g 0 j _ hc] at hu
  obtain ⟨h1, v', h2, h3⟩ := hg j _ hc
  have hv : cs[j]? = some v := by grind
  rw [h2] at hv; cases hv
  cases hu
  rw [Nat.zero_add]
  exact (canon_ent (os := []) h1).1 _ _ _ (fun k o hk => by grind) h3

theorem CellOk.sl_inv {cs : List CT} {a : AV} (h : CellOk (.sl cs) a) : islN a ≤ maxLen ∧ ∀ i j c, i < islN a → cs[j]? = some c → CellOk c (islF a i j) := by
  cases h with
  | sl hn h => exact ⟨hn, h⟩
theorem CellOk.int_inv {k : IntKind} {a : AV} (h : CellOk (.int k) a) : (Lit.int k (intOfAV a)).wf = true := canonI_wf h


theorem rel_agg_parts {β : Book} {w : World} {l : List AV} {vs : Array Value} (h : Rel β w (.agg l) (.agg vs)) : l.length = vs.size ∧ ∀ (j : Nat) u v, l[j]? = some u → vs[j]? = some v → Rel β w u v := by cases h <;> grind

section
open Go.ChangeShapes Go.WideShapes Go.ChangeAt
variable {H : Type} {enc : TypeId × Value → H} {P : Program} {W : World} {sp : Nat → Bool}

theorem open_any {r : Reach} {b0 : Nat} {t : TypeId} {v : Value} {d : DataW H} {ps : List MemPlace} {ts : List CT} {ag : Bool} (ht : isAggT P t = some ag)
    (hsh : shape P 9 t = some ts) (hv : Value.okWide P W r b0 t v) (h : DataW.Trod enc P W 0 sp true t v d ps) : ∃ cs : List Value, Fits W ts cs ∧ (ag = true → v = .agg cs.toArray) ∧ (ag = false → cs = [v]) := by
  cases ag with
  | true =>
    grind [open_agg]
  | false =>
    obtain ⟨fuel, hf⟩ := h
    have hc : v.cells.toList = [v] := by
      simp only [shape] at hsh
      split at hsh
      · rename_i hu; obtain ⟨b, rfl⟩ := okWide_bool hu hv; rfl
      · rename_i k hu; obtain ⟨n, rfl⟩ := okWide_int hu hv; rfl
      · rename_i hu; obtain ⟨n, rfl⟩ := okWide_string hu hv; rfl
      · rename_i e hu; obtain ⟨a, l, c, rfl⟩ := okWide_slice hu hv; rfl
      · simp_all [isAggT]
      · simp_all [isAggT]
      grind
    rw [hc] at hf
    exact ⟨[v], open_fits 9 t fuel _ _ ts hf hsh, fun h => by grind, fun _ => rfl⟩

def shapesOf (P : Program) : List TypeId → Option (List (Bool × List CT))
  | [] => some []
  | t :: ts => match isAggT P t, shape P 9 t, shapesOf P ts with
    | some b, some l, some r => some ((b, l) :: r)
    | _, _, _ => none

def argsOf : List (Bool × List CT) → (Nat → Nat → AV) → Nat → List AV
  | [], _, _ => []
  | (true, ts) :: S, G, n => .agg (canonRow ts (G n) 0) :: argsOf S G (n + 1)
  | (false, ts) :: S, G, n => atL (canonRow ts (G n) 0) 0 :: argsOf S G (n + 1)

theorem open_all {r : Reach} {b0 : Nat} : ∀ {ts : List TypeId} {vs : List Value} {ds : List (DataW H)} {ps : List MemPlace} {S : List (Bool × List CT)} (n : Nat), shapesOf P ts = some S → DataW.TrodAll enc P W 0 sp true ts vs ds ps →
    (∀ (j : Nat) t v, ts[j]? = some t → vs[j]? = some v → Value.okWide P W r b0 t v) →
    ∃ G : Nat → Nat → AV, (∀ (k : Nat) s, S[k]? = some s → ∀ (j : Nat) c, s.2[j]? = some c → CellOk c (G (n + k) j)) ∧ Rels noB W (argsOf S G n) vs.toArray ∧ ∃ f : Nat → DataW H, ds = (List.range S.length).map f
  | [], [], [], _, S, n, hS, hA, _ => by
    simp [shapesOf] at hS; subst hS
    exact ⟨fun _ _ => .junk, fun k s h => by grind, Rels.nil, fun _ => .nil, rfl⟩
  | t :: ts, v :: vs, d :: ds, ps, S, n, hS, hA, hok => by
    obtain ⟨p, q, h1, h2, rfl⟩ := hA
    simp only [shapesOf] at hS
    split at hS
    rotate_left
    · grind
    rename_i b l r' e1 e2 e3
    cases hS
    obtain ⟨cs, hf, g1, g2⟩ := open_any e1 e2 (hok 0 t v rfl rfl) h1
    obtain ⟨g, hg, hr⟩ := hf.canon
    obtain ⟨G, hG, hR, f, hds⟩ := open_all (n + 1) e3 h2 (fun j t v ht hv => hok (j + 1) t v (by grind) (by grind))
    have hne : ∀ k, Nat.beq (n + 1 + k) n = false := fun k => by grind [Nat.beq,Nat.eq_of_beq_eq_true]
    let G' : Nat → Nat → AV := fun m => bif Nat.beq m n then g else G m
    have hG' : ∀ k, G' (n + 1 + k) = G (n + 1 + k) := fun k => by grind
    have hGn : G' n = g := by grind [Nat.beq,Nat.beq_refl]
    have hargs : ∀ (S' : List (Bool × List CT)) (k : Nat), argsOf S' G' (n + 1 + k) = argsOf S' G (n + 1 + k) := by
      intro S'
      induction S' with
      | nil => intro k; rfl
      | cons x S' ih =>
        intro k
        obtain ⟨xb, xl⟩ := x
        cases xb <;> simp only [argsOf, hG'] <;> rw [show n + 1 + k + 1 = n + 1 + (k + 1) by omega, ih]
    refine ⟨G', fun k s hs j c hc => ?_, ?_, fun m => bif Nat.beq m 0 then d else f (m - 1), ?_⟩
    · grind
    · have h0 := hargs r' 0
      rw [Nat.add_zero] at h0
      cases b with
      | true =>
        have := g1 rfl; subst this
        simp only [argsOf, hGn, h0]
        exact Rels.cons hr hR
      | false =>
        have := g2 rfl; subst this
        simp only [argsOf, hGn, h0]
        refine Rels.cons ?_ hR
        obtain ⟨hl, hrr⟩ := rel_agg_parts hr
        have hlen : l.length = 1 := by rw [← hf.len]; rfl
        have e0 : l[0]? = some l[0] := by simp
        refine hrr 0 _ v ?_ rfl
        grind [atL,canonRow_get]
    · rw [hds]
      simp [List.range_succ_eq_map]
      exact fun a _ => rfl
  | [], _ :: _, _, _, _, _, _, h, _ => h.elim
  | [], [], _ :: _, _, _, _, _, h, _ => h.elim
  | _ :: _, [], _, _, _, _, _, h, _ => h.elim
  | _ :: _, _ :: _, [], _, _, _, _, h, _ => h.elim

end
end Go.Am

namespace Go.Sp
open Go Go.Am Go.Lib
def iR (n : Int) : Prop := -9223372036854775808 ≤ n ∧ n ≤ 9223372036854775807
structure CmdR (a : Cmd) : Prop where
  who : iR a.who
  whom : iR a.whom
  amount : iR a.amount
end Go.Sp
namespace Go.Sp
open Go Go.Am Go.Lib
def cmdOf (g : Nat → AV) : Cmd := ⟨intOfAV (g 0), intOfAV (g 1), intOfAV (g 2), intOfAV (g 3), boolOfAV (g 4)⟩
theorem cell_R {a : AV} (h : CellOk (.int .i64) a) : iR (intOfAV a) := by
  obtain ⟨h1, h2⟩ := (Lit.wf_int_iff _ _).1 h.int_inv
  exact ⟨Int.le_trans (by decide) h1, Int.le_trans h2 (by decide)⟩
end Go.Sp

namespace Go.Sp
open Go Go.Am Go.Lib
def blk (t : Bool) : Str := if t = true then [32, 9] else [32, 32]
theorem dec_step {n : Nat} (h : 10 ≤ n) : decDigits n = decDigits (n / 10) ++ decDigits (n % 10) := by
  rw [decDigits_one (show n % 10 < 10 by omega)]
  conv => lhs; rw [decDigits, dif_neg (show ¬ n < 10 by omega)]
theorem tdiv_n (n k : Nat) : Int.tdiv (n : Int) (k : Int) = ((n / k : Nat) : Int) := by
  rw [Int.tdiv_eq_ediv_of_nonneg (Int.natCast_nonneg n)]; rfl
theorem tmod_n (n k : Nat) : Int.tmod (n : Int) (k : Int) = ((n % k : Nat) : Int) := by
  rw [Int.tmod_eq_emod_of_nonneg (Int.natCast_nonneg n)]; rfl
theorem dig_str {n : Nat} (h : n < 10) : strOfNums [IntKind.wrap .u8 (IntKind.wrap .i64 (48 + (n : Int)))] = bs (decDigits n) := by
  have e : IntKind.wrap .u8 (48 + (n : Int)) = ((48 + n : Nat) : Int) := by
    unfold IntKind.wrap; simp [IntKind.signed, IntKind.bits]; omega
  rw [wI (by omega) (by omega), e, decDigits_one h]; rfl
theorem dec_len : ∀ (k u : Nat), u < 10 ^ (k + 1) → (decDigits u).length ≤ k + 1
  | 0, u, h => by rw [decDigits_one (by omega)]; exact Nat.le_refl _
  | k + 1, u, h => by
    by_cases h1 : u < 10
    · rw [decDigits_one h1]; simp
    · rw [dec_step (by omega), List.length_append, decDigits_one (show u % 10 < 10 by omega)]
      have := dec_len k (u / 10) (by rw [Nat.pow_succ] at h; omega)
      simp; omega
theorem dec_len100 (u : Nat) (h : u < 9223372036854775807) : (decDigits u).length ≤ 100 := Nat.le_trans (dec_len 18 u (by omega)) (by decide)
theorem nDigits_le {u : Nat} (h : u < 9223372036854775807) : nDigits u ≤ 100 := by
  have k := dec_len100 u h
  rwa [decDigits_length] at k
theorem itoaN {n : Int} (h : 0 ≤ n) : itoa n = decDigits n.toNat := by
  obtain ⟨k, rfl⟩ := Int.eq_ofNat_of_zero_le h
  exact itoa_nonneg k
theorem z1 (a : UInt8) : (ByteArray.mk #[a]).size = 1 := rfl

theorem itoa_m {n : Int} (h : n < 0) : itoa n = 45 :: decDigits n.natAbs := by unfold itoa; rw [if_pos h]
theorem itoa_neg1 {n : Int} (h : n < 0) : itoa n = [45] ++ itoa (-n) := by
  rw [itoa_m h, itoaN (by omega), show (-n).toNat = n.natAbs by omega]; rfl
theorem tneg (k : Nat) : Int.tdiv (-(k : Int)) 10 = -((k / 10 : Nat) : Int) ∧ Int.tmod (-(k : Int)) 10 = -((k % 10 : Nat) : Int) := by
  rw [Int.neg_tdiv, Int.neg_tmod]
  exact ⟨congrArg _ (tdiv_n k 10), congrArg _ (tmod_n k 10)⟩
theorem itoa_ndiv {n : Int} (h : n ≤ -10) : itoa n = [45] ++ (itoa (-(Int.tdiv n 10)) ++ itoa (-(Int.tmod n 10))) := by
  obtain ⟨k, hk⟩ := Int.eq_ofNat_of_zero_le (show 0 ≤ -n by omega)
  obtain rfl : n = -(k : Int) := by omega
  rw [(tneg k).1, (tneg k).2, Int.neg_neg, Int.neg_neg, itoa_nonneg, itoa_nonneg, itoa_neg1 (by omega), Int.neg_neg, itoa_nonneg, dec_step (by omega)]
theorem itoa_sdiv {n : Int} (h : n ≤ -10) : itoa n = itoa (Int.tdiv n 10) ++ itoa (-(Int.tmod n 10)) := by
  rw [itoa_ndiv h]
  have : Int.tdiv n 10 < 0 := by
    obtain ⟨k, hk⟩ := Int.eq_ofNat_of_zero_le (show 0 ≤ -n by omega)
    obtain rfl : n = -(k : Int) := by omega
    rw [(tneg k).1]; omega
  rw [itoa_neg1 this, List.append_assoc]
theorem itoa_l20 {n : Int} (h : -9223372036854775808 ≤ n ∧ n ≤ 9223372036854775807) : (itoa n).length ≤ 20 := by
  unfold itoa
  split
  · have := dec_len 18 n.natAbs (by omega)
    simp only [List.length_cons]; omega
  · have := dec_len 18 n.toNat (by omega)
    omega

def hexS : Str := [48, 49, 50, 51, 52, 53, 54, 55, 56, 57, 97, 98, 99, 100, 101, 102]
def hexC (c : Int) : Str := [hexS.getD (c / 16).toNat 0, hexS.getD (c % 16).toNat 0]
def hexF (f : Nat → Int) : Nat → Str
  | 0 => []
  | n + 1 => hexF f n ++ hexC (f n)
theorem hexF_len (f : Nat → Int) : ∀ n, (hexF f n).length = 2 * n
  | 0 => rfl
  | n + 1 => by rw [hexF, List.length_append, hexF_len f n]; show 2 * n + 2 = _; omega

def cmL (f : Nat → Int) : Nat → Str
  | 0 => []
  | 1 => itoa (f 0)
  | n + 2 => cmL f (n + 1) ++ ([44, 32] ++ itoa (f (n + 1)))
theorem cmL_len (f : Nat → Int) : ∀ n, (∀ i, i < n → -9223372036854775808 ≤ f i ∧ f i ≤ 9223372036854775807) → (cmL f n).length ≤ 22 * n
  | 0, _ => Nat.le_refl _
  | 1, h => by have := itoa_l20 (h 0 (by decide)); rw [cmL]; omega
  | n + 2, h => by
    have h1 := cmL_len f (n + 1) (fun i hi => h i (by omega))
    have h2 := itoa_l20 (h (n + 1) (by omega))
    rw [cmL, List.length_append, List.length_append]; simp only [List.length_cons, List.length_nil]; omega
end Go.Sp
