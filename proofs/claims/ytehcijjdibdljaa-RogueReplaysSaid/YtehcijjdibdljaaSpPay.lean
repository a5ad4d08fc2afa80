/-
  Payments as plain data.
-/
import Derived.Test.YtehcijjdibdljaaSpMath
namespace Go.Sp
open Go Go.Am

/-- A list of spends. -/
abbrev sps (n : Nat) (S : Nat → Spend) : AV := .isl 80 n (fun i j => atL (S i).cells j)
abbrev ils (n : Nat) (f : Nat → Int) : AV := .isl 1 n (fun i _ => .int .i64 (f i))

structure Chn where
  first : Spend
  n : Nat
  l : Nat → Spend

def Chn.cells (h : Chn) : List AV := h.first.cells ++ [sps h.n h.l]
def Chn.av (h : Chn) : AV := .agg h.cells

structure Esc where
  e1 : Int
  e2 : Int
  na : Nat
  a : Nat → Int
  c : Int
  nz : Nat
  z : Nat → Int

def Esc.cw (e : Esc) (x y : AV) : List AV := [.int .i64 e.e1, .int .i64 e.e2, x, .int .i64 e.c, y]
def Esc.cells (e : Esc) : List AV := e.cw (ils e.na e.a) (ils e.nz e.z)
def Esc.av (e : Esc) : AV := .agg e.cells

abbrev chs (n : Nat) (f : Nat → Chn) : AV := .isl 81 n (fun i j => atL (f i).cells j)
abbrev escs (n : Nat) (f : Nat → Esc) : AV := .isl 5 n (fun i j => atL (f i).cells j)

structure Pay where
  number : Int
  ns : Nat
  sp : Nat → Spend
  nc : Nat
  ch : Nat → Chn
  ne : Nat
  es : Nat → Esc

def Pay.cw (p : Pay) (x y z : AV) : List AV := [.int .i64 p.number, x, y, z]
def Pay.cells (p : Pay) : List AV := p.cw (sps p.ns p.sp) (chs p.nc p.ch) (escs p.ne p.es)
def Pay.av (p : Pay) : AV := .agg p.cells

/-- An invoice: payee, amount, time, number. -/
structure Inv where
  payee : Nat → Int
  amount : Int
  time : Int
  number : Int

def u8c (p : Nat → Int) : List AV := [.int .u8 (p 0), .int .u8 (p 1), .int .u8 (p 2), .int .u8 (p 3), .int .u8 (p 4), .int .u8 (p 5), .int .u8 (p 6), .int .u8 (p 7), .int .u8 (p 8), .int .u8 (p 9), .int .u8 (p 10), .int .u8 (p 11), .int .u8 (p 12), .int .u8 (p 13), .int .u8 (p 14), .int .u8 (p 15), .int .u8 (p 16), .int .u8 (p 17), .int .u8 (p 18), .int .u8 (p 19), .int .u8 (p 20), .int .u8 (p 21), .int .u8 (p 22), .int .u8 (p 23), .int .u8 (p 24), .int .u8 (p 25), .int .u8 (p 26), .int .u8 (p 27), .int .u8 (p 28), .int .u8 (p 29), .int .u8 (p 30), .int .u8 (p 31)]
def Inv.cells (v : Inv) : List AV := u8c v.payee ++ [.int .i64 v.amount, .int .i64 v.time, .int .i64 v.number]
def Inv.av (v : Inv) : AV := .agg v.cells
def ctxC (p : Nat → Int) (t n : Int) : List AV := u8c p ++ [.int .i64 t, .int .i64 n]

def invB (v : Inv) : Bool := decide (v.amount ≥ 1) && decide (v.amount ≤ 1099511627776) && decide (v.time ≥ 0) && decide (v.time ≤ 1099511627776) && decide (v.number ≥ 0) && decide (v.number ≤ 1073741824)

def Inv.zero : Inv := ⟨fun _ => 0, 0, 0, 0⟩
def invCtx (v : Inv) : Inv := bif invB v then v else .zero
def invE (v : Inv) : Int := bif invB v then 0 else 1
theorem not_t {b : Bool} (h : (!b) = true) : b = false := by simpa using h
theorem not_f {b : Bool} (h : (!b) = false) : b = true := by simpa using h
theorem invCtx_f {v : Inv} (h : (!invB v) = true) : invCtx v = .zero ∧ invE v = 1 := by rw [invCtx, invE, not_t h]; exact ⟨rfl, rfl⟩
theorem invCtx_t {v : Inv} (h : (!invB v) = false) : invCtx v = v ∧ invE v = 0 := by rw [invCtx, invE, not_f h]; exact ⟨rfl, rfl⟩

def fewB (s : Spend) : Bool := decide ((s.nl : Int) ≤ 40) && decide ((s.np : Int) ≤ 20)
def longE (e : Esc) : Bool := decide ((e.na : Int) > 20) || decide ((e.nz : Int) > 20)
def anyI (p : Nat → Bool) (n : Nat) : Bool := decide (firstI p n 0 ≥ 0)
def longC (h : Chn) : Bool := decide ((h.n : Int) > 10) || !fewB h.first || anyI (fun i => !fewB (h.l i)) h.n
def lightB (p : Pay) : Bool := !(decide ((p.ns : Int) > 8) || decide ((p.nc : Int) > 8) || decide ((p.ne : Int) > 20) || anyI (fun i => !fewB (p.sp i)) p.ns) && !anyI (fun i => longE (p.es i)) p.ne && !anyI (fun i => longC (p.ch i)) p.nc

/-- A spend for another invoice. -/
def reS (p : Nat → Int) (t n : Int) (s : Spend) : Spend := { s with payee := p, time := t, number := n }

/-- The payment's number, spends, chains, escrows, for an invoice. -/
def reS' (v : Inv) (s : Spend) : Spend := reS v.payee v.time v.number s
def reC (v : Inv) (h : Chn) : Chn := if h.n = 0 then { h with first := reS' v h.first } else { h with l := fun i => if i + 1 = h.n then reS' v (h.l i) else h.l i }
def Pay.zero : Pay := ⟨0, 0, fun _ => .zero, 0, fun _ => ⟨.zero, 0, fun _ => .zero⟩, 0, fun _ => ⟨0, 0, 0, fun _ => 0, 0, 0, fun _ => 0⟩⟩
def reP (v : Inv) (p : Pay) : Pay := bif invB v then { number := v.number, ns := p.ns, sp := fun i => reS' v (p.sp i), nc := p.nc, ch := fun i => reC v (p.ch i), ne := p.ne, es := p.es } else .zero

/-- The chain for another context; 'd' is the context's invoice. -/
def reC' (v : Inv) (h : Chn) : Chn := reC v h

structure LightP (p : Pay) : Prop where
  ns : p.ns ≤ 8
  nc : p.nc ≤ 8
  ne : p.ne ≤ 20
  sp : ∀ i, i < p.ns → (p.sp i).nl ≤ 1000 ∧ (p.sp i).np ≤ 1000
  cn : ∀ i, i < p.nc → (p.ch i).n ≤ 10
  cf : ∀ i, i < p.nc → (p.ch i).first.nl ≤ 1000 ∧ (p.ch i).first.np ≤ 1000
  cl : ∀ i j, i < p.nc → j < (p.ch i).n → ((p.ch i).l j).nl ≤ 1000 ∧ ((p.ch i).l j).np ≤ 1000
  es : ∀ i, i < p.ne → (p.es i).na ≤ 1000 ∧ (p.es i).nz ≤ 1000

theorem fewB_len {s : Spend} (h : fewB s = true) : s.nl ≤ 1000 ∧ s.np ≤ 1000 := by
  simp [fewB] at h; omega
theorem anyI_f {p : Nat → Bool} {n : Nat} (h : anyI p n = false) : ∀ i, i < n → p i = false := by
  intro i hi
  unfold anyI at h
  rw [firstI_neg] at h
  have := List.any_eq_false.1 h i (List.mem_range.2 hi)
  simpa using this

theorem lightP {p : Pay} (h : lightB p = true) : LightP p := by
  simp only [lightB, Bool.and_eq_true, Bool.not_eq_true', Bool.or_eq_false_iff, decide_eq_false_iff_not] at h
  obtain ⟨⟨⟨⟨⟨h1, h2⟩, h3⟩, h4⟩, h5⟩, h6⟩ := h
  have g4 := anyI_f h4
  have g5 := anyI_f h5
  have g6 := anyI_f h6
  have hc : ∀ i, i < p.nc → (p.ch i).n ≤ 10 ∧ fewB (p.ch i).first = true ∧ ∀ j, j < (p.ch i).n → fewB ((p.ch i).l j) = true := fun i hi => by
    have := g6 i hi
    simp only [longC, Bool.or_eq_false_iff, decide_eq_false_iff_not, Bool.not_eq_false'] at this
    obtain ⟨⟨k1, k2⟩, k3⟩ := this
    exact ⟨by omega, k2, fun j hj => by simpa using anyI_f k3 j hj⟩
  refine ⟨by omega, by omega, by omega, fun i hi => fewB_len (by simpa using g4 i hi), fun i hi => (hc i hi).1, fun i hi => fewB_len (hc i hi).2.1, fun i j hi hj => fewB_len ((hc i hi).2.2 j hj), fun i hi => ?_⟩
  have := g5 i hi
  simp [longE] at this
  omega

theorem EntL.app {os : List (Option Ob)} : ∀ {l l' m m' : List AV}, EntL os l l' → EntL os m m' → EntL os (l ++ m) (l' ++ m')
  | [], [], _, _, _, h => h
  | _ :: _, _ :: _, _, _, h, h' => ⟨h.1, EntL.app h.2 h'⟩
  | [], _ :: _, _, _, h, _ => h.elim
  | _ :: _, [], _, _, h, _ => h.elim
theorem chn_ent {os : List (Option Ob)} (s : Spend) {x y : AV} (h : Ent os x y) : EntL os (s.cells ++ [x]) (s.cells ++ [y]) := EntL.app (EntL.refl _) ⟨h, trivial⟩
theorem invE_0 {v : Inv} (h : invE v = 0) : invB v = true ∧ invCtx v = v := by
  cases hb : invB v with
  | true => rw [invCtx, hb]; exact ⟨rfl, rfl⟩
  | false => rw [invE, hb] at h; cases h
theorem reP_no {os : List (Option Ob)} {v : Inv} {p : Pay} (h : ¬ invE v = 0) : Ent os (.agg [.int .i64 0, .nsl, .nsl, .nsl]) (reP v p).av := by
  have hb : invB v = false := by
    cases hb : invB v with
    | false => rfl
    | true => rw [invE, hb] at h; exact absurd rfl h
  have : reP v p = .zero := by rw [reP, hb]; rfl
  rw [this]
  exact Ent.agg ⟨Ent.refl _, Ent.nsl, Ent.nsl, Ent.nsl, trivial⟩
theorem reC_0 {v : Inv} {h : Chn} (h0 : h.n = 0) : reC v h = { h with first := reS' v h.first } := if_pos h0
theorem reC_s {v : Inv} {h : Chn} (h0 : ¬ h.n = 0) : reC v h = { h with l := fun i => if i + 1 = h.n then reS' v (h.l i) else h.l i } := if_neg h0

theorem reC_put {os : List (Option Ob)} {v : Inv} {h : Chn} {y idx : Nat} (hy : y = h.n) (h0 : 0 < y) (hi : idx + 1 = y) :
    EntL os (h.first.cells ++ [.isl 80 y (fun r k => mixA (Nat.beq (r + 0) idx) (atL (reS' v (h.l idx)).cells k) (atL (h.l (r + 0)).cells k))]) (reC v h).cells := by
  rw [reC_s (by omega)]
  refine EntL.app (EntL.refl _) ⟨Ent.islN hy (fun r k hr hk => ?_), trivial⟩
  show mixA (Nat.beq r idx) _ _ = atL (Spend.cells (if r + 1 = h.n then _ else _)) k
  cases hb : Nat.beq r idx with
  | true =>
    have := Nat.eq_of_beq_eq_true hb
    subst this
    rw [mixA_tt, if_pos (by omega)]
  | false =>
    have := Nat.ne_of_beq_eq_false hb
    rw [mixA_ff, if_neg (by omega)]
    rfl
theorem reC_zero {os : List (Option Ob)} {v : Inv} {h : Chn} {y : Nat} {g : Nat → Nat → AV} (hy : y = h.n) (h0 : ¬ (0 : Int) < y) : EntL os ((reS' v h.first).cells ++ [.isl 80 y g]) (reC v h).cells := by
  rw [reC_0 (by omega)]
  exact EntL.app (EntL.refl _) ⟨Ent.islN hy (fun r k hr => absurd hr (by omega)), trivial⟩
theorem reP_yes {v : Inv} {p : Pay} (h : invE v = 0) : reP v p = ⟨v.number, p.ns, fun i => reS' (invCtx v) (p.sp i), p.nc, fun i => reC' (invCtx v) (p.ch i), p.ne, p.es⟩ := by
  rw [reP, (invE_0 h).1, (invE_0 h).2]; rfl

theorem isl0_ent {os : List (Option Ob)} {es : Nat} {f g : Nat → Nat → AV} : Ent os (.isl es 0 f) (.isl es 0 g) := Ent.isl fun i j hi => absurd hi (by omega)

end Go.Sp
