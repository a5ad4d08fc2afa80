/-
  Spends as plain data; which are well-formed.
-/
import Derived.Test.YtehcijjdibdljaaEnLaw
namespace Go.Sp
open Go Go.Am

theorem wI {n : Int} (h : -9223372036854775808 ≤ n) (h' : n ≤ 9223372036854775807) : IntKind.wrap .i64 n = n := by
  simp only [IntKind.wrap, IntKind.bits, IntKind.signed]
  simp only [Bool.true_and, decide_eq_true_eq, ge_iff_le]
  split <;> omega

def nodeB (d l i : Int) : Bool := decide (0 ≤ d ∧ d ≤ 5 ∧ 0 ≤ l ∧ l ≤ d ∧ 0 ≤ i ∧ i < 2 ^ l.toNat)
def spanA (d l i : Int) : Int := if nodeB d l i then i * 2 ^ (d - l).toNat else 0
def spanZ (d l i : Int) : Int := if nodeB d l i then (i + 1) * 2 ^ (d - l).toNat else 0
def spanE (d l i : Int) : Int := if d < 0 ∨ 5 < d then 1 else if nodeB d l i then 0 else 2
def amE (v d l i : Int) : Int := if v < 0 ∨ 1099511627776 < v ∨ d < 0 ∨ 5 < d then 1 else if nodeB d l i then 0 else 2
def am (v d l i : Int) : Int := if amE v d l i = 0 then v / 2 ^ l.toNat else 0

theorem node_m (d l i : Int) : (decide (d ≥ 0) && decide (d ≤ 5) && decide (l ≥ 0) && decide (l ≤ d) && decide (i ≥ 0) && decide (i < IntKind.wrap IntKind.i64 (1 * 2 ^ min (Int.toNat l) 64))) = nodeB d l i := by
  by_cases hl : 0 ≤ l ∧ l ≤ 5
  · have : IntKind.wrap IntKind.i64 (1 * 2 ^ min (Int.toNat l) 64) = 2 ^ l.toNat := by
      rcases (by omega : l = 0 ∨ l = 1 ∨ l = 2 ∨ l = 3 ∨ l = 4 ∨ l = 5) with rfl | rfl | rfl | rfl | rfl | rfl <;> decide
    rw [this]
    simp [nodeB, Bool.and_assoc]
  · rw [Bool.eq_iff_iff]
    simp [nodeB]
    constructor
    · intro h; omega
    · intro h; omega

theorem node_t {d l i : Int} (h : nodeB d l i = true) : 0 ≤ d ∧ d ≤ 5 ∧ 0 ≤ l ∧ l ≤ d ∧ 0 ≤ i ∧ i < 2 ^ l.toNat := by simpa [nodeB] using h

theorem p2 {k : Int} (h0 : 0 ≤ k) (h1 : k ≤ 5) : IntKind.wrap IntKind.i64 (1 * 2 ^ min (Int.toNat k) 64) = 2 ^ k.toNat ∧ min (Int.toNat k) 64 = k.toNat ∧ 1 ≤ (2 : Int) ^ k.toNat ∧ (2 : Int) ^ k.toNat ≤ 32 := by
  rcases (by omega : k = 0 ∨ k = 1 ∨ k = 2 ∨ k = 3 ∨ k = 4 ∨ k = 5) with rfl | rfl | rfl | rfl | rfl | rfl <;> decide

theorem span_1 {d l i : Int} (h : (decide (d < 0) || decide (d > 5)) = true) : spanA d l i = 0 ∧ spanZ d l i = 0 ∧ spanE d l i = 1 := by
  have hd : d < 0 ∨ 5 < d := by simpa using h
  have hn : nodeB d l i = false := by
    cases hb : nodeB d l i with
    | false => rfl
    | true => have := node_t hb; omega
  simp [spanA, spanZ, spanE, hn, hd]

theorem span_2 {d l i : Int} (h : (decide (d < 0) || decide (d > 5)) = false) (hn : (!nodeB d l i) = true) : spanA d l i = 0 ∧ spanZ d l i = 0 ∧ spanE d l i = 2 := by
  have hd : ¬ (d < 0 ∨ 5 < d) := by simpa using h
  have hn : nodeB d l i = false := by simpa using hn
  simp [spanA, spanZ, spanE, hn, hd]

theorem bnd {i a b : Int} (h0 : 0 ≤ i) (h1 : i < a) (h2 : a ≤ 32) (h3 : 1 ≤ b) (h4 : b ≤ 32) : 0 ≤ i * b ∧ i * b ≤ 1024 ∧ 0 ≤ (i + 1) * b ∧ (i + 1) * b ≤ 1056 := by
  have e1 : i * b ≤ 32 * 32 := Int.mul_le_mul (by omega) h4 (by omega) (by omega)
  have e2 := Int.mul_nonneg h0 (show 0 ≤ b by omega)
  have e3 : (i + 1) * b = i * b + b := by rw [Int.add_mul, Int.one_mul]
  omega

theorem span_3 {d l i : Int} (hn : (!nodeB d l i) = false) : IntKind.wrap .i64 (i * IntKind.wrap .i64 (1 * 2 ^ min (Int.toNat (IntKind.wrap .i64 (d - l))) 64)) = spanA d l i ∧
    IntKind.wrap .i64 (IntKind.wrap .i64 (i + 1) * IntKind.wrap .i64 (1 * 2 ^ min (Int.toNat (IntKind.wrap .i64 (d - l))) 64)) = spanZ d l i ∧ spanE d l i = 0 ∧ 0 ≤ IntKind.wrap .i64 (d - l) := by
  have hn : nodeB d l i = true := by simpa using hn
  obtain ⟨h1, h2, h3, h4, h5, h6⟩ := node_t hn
  have e : IntKind.wrap .i64 (d - l) = d - l := wI (by omega) (by omega)
  obtain ⟨q1, _, q2, q3⟩ := p2 (k := d - l) (by omega) (by omega)
  obtain ⟨_, _, r2, r3⟩ := p2 (k := l) (by omega) (by omega)
  obtain ⟨b1, b2, b3, b4⟩ := bnd h5 h6 r3 q2 q3
  rw [e, q1]
  rw [wI (n := i + 1) (by omega) (by omega), wI (by omega) (by omega), wI (by omega) (by omega)]
  simp [spanA, spanZ, spanE, hn]
  omega


abbrev Sub {α : Type} (p : α → Prop) : Type := {x : α // p x}

structure Spend where
  bank : Int
  epoch : Int
  denom : Int
  depth : Int
  a : Int
  root : Nat → Int
  z : Int
  sa : Int
  sb : Int
  r : Int
  level : Int
  index : Int
  payee : Nat → Int
  time : Int
  number : Int
  nl : Nat
  lf : Nat → Nat → Int
  pidx : Int
  np : Nat
  pf : Nat → Nat → Int

abbrev lvs (n : Nat) (f : Nat → Nat → Int) : AV := .isl 3 n (fun i j => .int .i64 (f i j))
abbrev hss (n : Nat) (f : Nat → Nat → Int) : AV := .isl 32 n (fun i j => .int .u8 (f i j))

/-- The cells of a spend whose lists are x and y. -/
def Spend.cw (s : Spend) (x y : AV) : List AV := [.int .i64 s.bank, .int .i64 s.epoch, .int .i64 s.denom, .int .i64 s.depth, .int .i64 s.a, .int .u8 (s.root 0), .int .u8 (s.root 1), .int .u8 (s.root 2), .int .u8 (s.root 3), .int .u8 (s.root 4), .int .u8 (s.root 5), .int .u8 (s.root 6), .int .u8 (s.root 7), .int .u8 (s.root 8), .int .u8 (s.root 9), .int .u8 (s.root 10), .int .u8 (s.root 11), .int .u8 (s.root 12), .int .u8 (s.root 13), .int .u8 (s.root 14), .int .u8 (s.root 15), .int .u8 (s.root 16), .int .u8 (s.root 17), .int .u8 (s.root 18), .int .u8 (s.root 19), .int .u8 (s.root 20), .int .u8 (s.root 21), .int .u8 (s.root 22), .int .u8 (s.root 23), .int .u8 (s.root 24), .int .u8 (s.root 25), .int .u8 (s.root 26), .int .u8 (s.root 27), .int .u8 (s.root 28), .int .u8 (s.root 29), .int .u8 (s.root 30), .int .u8 (s.root 31), .int .i64 s.z, .int .i64 s.sa, .int .i64 s.sb, .int .i64 s.r, .int .i64 s.level, .int .i64 s.index, .int .u8 (s.payee 0), .int .u8 (s.payee 1), .int .u8 (s.payee 2), .int .u8 (s.payee 3), .int .u8 (s.payee 4), .int .u8 (s.payee 5), .int .u8 (s.payee 6), .int .u8 (s.payee 7), .int .u8 (s.payee 8), .int .u8 (s.payee 9), .int .u8 (s.payee 10), .int .u8 (s.payee 11), .int .u8 (s.payee 12), .int .u8 (s.payee 13), .int .u8 (s.payee 14), .int .u8 (s.payee 15), .int .u8 (s.payee 16), .int .u8 (s.payee 17), .int .u8 (s.payee 18), .int .u8 (s.payee 19), .int .u8 (s.payee 20), .int .u8 (s.payee 21), .int .u8 (s.payee 22), .int .u8 (s.payee 23), .int .u8 (s.payee 24), .int .u8 (s.payee 25), .int .u8 (s.payee 26), .int .u8 (s.payee 27), .int .u8 (s.payee 28), .int .u8 (s.payee 29), .int .u8 (s.payee 30), .int .u8 (s.payee 31), .int .i64 s.time, .int .i64 s.number, x, .int .i64 s.pidx, y]
def Spend.cells (s : Spend) : List AV := s.cw (lvs s.nl s.lf) (hss s.np s.pf)
def Spend.av (s : Spend) : AV := .agg s.cells

/-- Is a spend well-formed? -/
def okS (s : Spend) : Bool := !(spanE s.depth s.level s.index != 0 || (s.nl : Int) != IntKind.wrap .i64 (spanZ s.depth s.level s.index - spanA s.depth s.level s.index) || decide (s.time < 0) || decide (s.time > 1099511627776) || decide (s.number < 0) || decide (s.number > 1073741824))

/-- The first index from i on that has it, else -1. -/
def firstI (p : Nat → Bool) : Nat → Nat → Int
  | 0, _ => -1
  | k + 1, i => if p i then i else firstI p k (i + 1)

theorem firstI_step {p : Nat → Bool} {n i : Nat} (h : i < n) : firstI p (n - i) i = if p i then (i : Int) else firstI p (n - (i + 1)) (i + 1) := by
  rw [show n - i = (n - (i + 1)) + 1 by omega]; rfl
theorem firstI_end {p : Nat → Bool} {n i : Nat} (h : n ≤ i) : firstI p (n - i) i = -1 := by
  rw [show n - i = 0 by omega]; rfl
theorem firstI_neg {p : Nat → Bool} : ∀ k i, (decide (firstI p k i ≥ 0)) = (List.range k).any (fun q => p (i + q))
  | 0, i => rfl
  | k + 1, i => by
    have ih := firstI_neg (p := p) k (i + 1)
    have e : (List.range (k + 1)).any (fun q => p (i + q)) = (p i || (List.range k).any (fun q => p (i + 1 + q))) := by
      rw [List.range_succ_eq_map, List.any_cons, List.any_map]
      show (p i || (List.range k).any (fun q => p (i + (q + 1)))) = _
      have : (fun q => p (i + (q + 1))) = (fun q => p (i + 1 + q)) := funext fun q => congrArg p (by omega)
      rw [this]
    rw [e, ← ih]
    by_cases h : p i = true
    · rw [firstI, if_pos h, h]; simp
    · have hf : p i = false := by simpa using h
      rw [firstI, if_neg h, hf]; simp

theorem first_hit {p : Nat → Bool} {A : Int} {n i : Nat} (hx : A = firstI p (n - i) i) (h : i < n) (hp : p i = true) : (i : Int) = A := by rw [hx, firstI_step h, if_pos hp]
theorem first_next {p : Nat → Bool} {A : Int} {n i : Nat} (hx : A = firstI p (n - i) i) (h : i < n) (hp : p i = false) : A = firstI p (n - (i + 1)) (i + 1) := by rw [hx, firstI_step h, if_neg (by simp [hp])]
theorem first_miss {p : Nat → Bool} {A : Int} {n i : Nat} (hx : A = firstI p (n - i) i) (h : n ≤ i) : -1 = A := by rw [hx, firstI_end h]

theorem inc_ent {os : List (Option Ob)} {i : Nat} (h : i < 9223372036854775807) : Ent os (.int .i64 (IntKind.wrap .i64 (Nat.cast i + 1))) (.int .i64 (Nat.cast (i + 1))) := Ent.of_eq (by rw [wI (by omega) (by omega)]; simp)

theorem wU_nonneg (x : Int) : 0 ≤ IntKind.wrap .u64 x := by
  simp only [IntKind.wrap, IntKind.bits, IntKind.signed]
  simp only [Bool.false_and]
  simp
  omega

def placeB (d l i : Int) : Bool := decide (l ≥ 0) && decide (l ≤ d) && decide (i ≥ 0) && decide (i < IntKind.wrap IntKind.i64 (1 * 2 ^ min (Int.toNat l) 64))
theorem place_node (d l i : Int) : (decide (d ≥ 0) && decide (d ≤ 5) && placeB d l i) = nodeB d l i := by
  rw [← node_m]; simp only [placeB, Bool.and_assoc]
def ctxB (t n : Int) : Bool := decide (t ≥ 0) && decide (t ≤ 1099511627776) && decide (n ≥ 0) && decide (n ≤ 1073741824)

theorem rspan_m {d l i : Int} (hn : nodeB d l i = true) : IntKind.wrap .i64 (i * IntKind.wrap .i64 (1 * 2 ^ min (Int.toNat (IntKind.wrap .u64 (IntKind.wrap .i64 (d - l)))) 64)) = spanA d l i ∧
    IntKind.wrap .i64 (IntKind.wrap .i64 (i + 1) * IntKind.wrap .i64 (1 * 2 ^ min (Int.toNat (IntKind.wrap .u64 (IntKind.wrap .i64 (d - l)))) 64)) = spanZ d l i := by
  obtain ⟨h1, h2, h3, h4, h5, h6⟩ := node_t hn
  have e : IntKind.wrap .i64 (d - l) = d - l := wI (by omega) (by omega)
  have e2 : IntKind.wrap .u64 (d - l) = d - l := by
    simp only [IntKind.wrap, IntKind.bits, IntKind.signed]
    simp only [Bool.false_and]
    simp
    omega
  have := span_3 (d := d) (l := l) (i := i) (by simp [hn])
  rw [e] at this
  rw [e, e2]
  exact ⟨this.1, this.2.1⟩

theorem okS_no {s : Spend} (h : (decide (s.depth < 0) || decide (s.depth > 5) || !nodeB s.depth s.level s.index || !ctxB s.time s.number) = true) : okS s = false := by
  simp only [okS, spanE]
  simp [nodeB] at *
  simp [ctxB] at h
  omega

theorem okS_yes {s : Spend} (h : (decide (s.depth < 0) || decide (s.depth > 5) || !nodeB s.depth s.level s.index || !ctxB s.time s.number) = false) :
    nodeB s.depth s.level s.index = true ∧ ((s.nl : Int) == IntKind.wrap .i64 (spanZ s.depth s.level s.index - spanA s.depth s.level s.index)) = okS s := by
  simp [ctxB] at h
  obtain ⟨⟨⟨h1, h2⟩, h3⟩, h4⟩ := h
  refine ⟨h3, ?_⟩
  have he : spanE s.depth s.level s.index = 0 := by
    simp only [spanE, h3]
    rw [if_neg (by omega)]; simp
  have e1 : decide (s.time < 0) = false := by simp; omega
  have e2 : decide (s.time > 1099511627776) = false := by simp; omega
  have e3 : decide (s.number < 0) = false := by simp; omega
  have e4 : decide (s.number > 1073741824) = false := by simp; omega
  unfold okS
  rw [he, e1, e2, e3, e4]
  simp [bne]

theorem cw_ent {os : List (Option Ob)} (s : Spend) {x x' y y' : AV} (hx : Ent os x x') (hy : Ent os y y') : EntL os (s.cw x y) (s.cw x' y') := by
  unfold Spend.cw
  repeat' (first | exact ⟨hx, ⟨Ent.refl _, ⟨hy, trivial⟩⟩⟩ | refine ⟨Ent.refl _, ?_⟩)

def found (b : Spend) (v : Int) : Bool := decide (firstI (fun i => b.lf i 0 == v) b.nl 0 ≥ 0)
def fromS (a : Spend) : Int := bif okS a then spanA a.depth a.level a.index else 0
def toS (a : Spend) : Int := bif okS a then spanZ a.depth a.level a.index else 0
def sharedN (a b : Spend) (x : Nat) : List Int := ((List.range x).filter fun i => found b (a.lf i 0)).map fun (i : Nat) => fromS a + (i : Int)
def sharedL (a b : Spend) : List Int := if a.a ≠ b.a then [] else sharedN a b a.nl

theorem sharedN_t {a b : Spend} {x : Nat} (h : found b (a.lf x 0) = true) : sharedN a b (x + 1) = sharedN a b x ++ [fromS a + x] := by
  simp [sharedN, List.range_succ, List.filter_append, h]
theorem sharedN_f {a b : Spend} {x : Nat} (h : found b (a.lf x 0) = false) : sharedN a b (x + 1) = sharedN a b x := by
  simp [sharedN, List.range_succ, List.filter_append, h]
theorem sharedN_lt {a b : Spend} {x : Nat} (h : found b (a.lf x 0) = true) : (sharedN a b x).length + 1 = (sharedN a b (x + 1)).length := by rw [sharedN_t h]; simp
theorem sharedN_lf {a b : Spend} {x : Nat} (h : found b (a.lf x 0) = false) : (sharedN a b x).length = (sharedN a b (x + 1)).length := by rw [sharedN_f h]
theorem sharedN_len (a b : Spend) (x : Nat) : (sharedN a b x).length ≤ x := by
  unfold sharedN
  rw [List.length_map]
  have := List.length_filter_le (fun i => found b (a.lf i 0)) (List.range x)
  simpa using this
theorem fromS_bnd (a : Spend) : 0 ≤ fromS a ∧ fromS a ≤ 1024 := by
  unfold fromS
  cases okS a with
  | false => simp
  | true =>
    simp only [cond_true, spanA]
    split
    · rename_i h
      obtain ⟨h1, h2, h3, h4, h5, h6⟩ := node_t h
      obtain ⟨q1, _, q2, q3⟩ := p2 (k := a.depth - a.level) (by omega) (by omega)
      obtain ⟨_, _, r2, r3⟩ := p2 (k := a.level) (by omega) (by omega)
      obtain ⟨b1, b2, b3, b4⟩ := bnd h5 h6 r3 q2 q3
      omega
    · omega

theorem sharedN_w {a b : Spend} {x : Nat} (hx : x ≤ 1000) (h : found b (a.lf x 0) = true) : sharedN a b (x + 1) = sharedN a b x ++ [IntKind.wrap .i64 (fromS a + x)] := by
  have := fromS_bnd a
  rw [sharedN_t h, wI (by omega) (by omega)]
theorem shared_same {os : List (Option Ob)} {a b : Spend} {x : Nat} (h : found b (a.lf x 0) = false) : ObEnt os ⟨1, (sharedN a b x).length, true, .fn (ilF .i64 (sharedN a b x))⟩ ⟨1, (sharedN a b (x + 1)).length, true, .fn (ilF .i64 (sharedN a b (x + 1)))⟩ := by
  rw [sharedN_f h]; exact .refl _
theorem shared_end {a b : Spend} {x : Nat} (h0 : (a.a != b.a) = false) (hx : x = a.nl) : sharedN a b x = sharedL a b := by
  subst hx; exact (if_neg (by simpa using h0)).symm
theorem shared_none {a b : Spend} (h0 : (a.a != b.a) = true) : sharedL a b = [] := if_pos (by simpa using h0)

theorem formed2_m (a b : Spend) : (!decide (firstI (fun i => !okS (bif Nat.beq i 0 then a else b)) 2 0 ≥ 0)) = (okS a && okS b) := by
  rw [firstI_neg]
  have : List.range 2 = [0, 1] := rfl
  rw [this]
  simp
  rfl
theorem not_both {a b : Bool} (h : (!(a && b)) = true) : (a && b) = false := by simpa using congrArg not h
theorem both {a b : Bool} (h : (!(a && b)) = false) : (a && b) = true := by simpa using congrArg not h

/-- No spend. -/
def Spend.zero : Spend := ⟨0, 0, 0, 0, 0, fun _ => 0, 0, 0, 0, 0, 0, 0, fun _ => 0, 0, 0, 0, fun _ _ => 0, 0, 0, fun _ _ => 0⟩

def altE (s : Spend) (k b : Int) : Int := if okS s then (if k < 0 ∨ 11 < k ∨ b < 1 ∨ 1000 < b then 2 else if (k = 10 ∧ s.nl = 1) ∨ (k = 11 ∧ s.np = 0) then 7 else 0) else 1
def x1 (n : Int) : Int := IntKind.wrap .u8 (BitVec.toNat (BitVec.ofInt 8 n ^^^ BitVec.ofInt 8 1))
def tm (b : Int) (n : Nat) : Nat := Int.toNat (Int.tmod b n)
def lfr (s : Spend) (x k : Nat) : Int := intOfAV (atL [.int .i64 (s.lf x 0), .int .i64 (s.lf x 1), .int .i64 (s.lf x 2)] k)
def lastN (s : Spend) : Nat := Int.toNat (IntKind.wrap .i64 ((s.nl : Int) - 1))

def alt (s : Spend) (b : Int) : Nat → Spend
  | 0 => { s with denom := IntKind.wrap .i64 (s.denom + b) }
  | 1 => { s with a := IntKind.wrap .i64 (s.a + b) }
  | 2 => { s with root := fun j => bif Nat.beq j (tm b 32) then x1 (s.root (tm b 32)) else s.root j }
  | 3 => { s with r := IntKind.wrap .i64 (s.r + b) }
  | 4 => { s with index := IntKind.wrap .i64 (BitVec.toNat (BitVec.ofInt 64 s.index ^^^ BitVec.ofInt 64 1)) }
  | 5 => { s with payee := fun j => bif Nat.beq j (tm b 32) then x1 (s.payee (tm b 32)) else s.payee j }
  | 6 => { s with time := IntKind.wrap .i64 (s.time + b) }
  | 7 => { s with number := IntKind.wrap .i64 (s.number + b) }
  | 8 => { s with lf := fun r k => bif Nat.beq r (tm b s.nl) && (Nat.ble 1 k && Nat.blt k 2) then IntKind.wrap .i64 (s.lf (tm b s.nl) 1 + b) else s.lf r k }
  | 9 => { s with lf := fun r k => bif Nat.beq r (tm b s.nl) && (Nat.ble 2 k && Nat.blt k 3) then IntKind.wrap .i64 (s.lf (tm b s.nl) 2 + b) else s.lf r k }
  | 10 => { s with lf := fun r k => bif Nat.beq r (lastN s) && (Nat.ble 0 k && Nat.blt k 3) then lfr s 0 k else bif Nat.beq r 0 && (Nat.ble 0 k && Nat.blt k 3) then lfr s (lastN s) k else s.lf r k }
  | _ => { s with pf := fun r k => bif Nat.beq r (tm b s.np) && (Nat.ble 0 k && Nat.blt k 1) then x1 (s.pf (tm b s.np) 0) else s.pf r k }

def altS (s : Spend) (k b : Int) : Spend := if altE s k b = 0 then alt s b k.toNat else .zero

theorem alt_ok {s : Spend} {k b : Int} (q : Nat) (he : altE s k b = 0) (hk : k = q) : altS s k b = alt s b q := by
  rw [altS, if_pos he, hk]; rfl

theorem alt_out {os : List (Option Ob)} {s : Spend} {k b : Int} (q : Nat) (he : altE s k b = 0) (hk : k = q) : Ent os (.tup [(alt s b q).av, .int .i64 0]) (.tup [(altS s k b).av, .int .i64 (altE s k b)]) :=
  Ent.of_eq (by rw [alt_ok q he hk, he])

theorem zero_ent {os : List (Option Ob)} : EntL os (Spend.zero.cw .nsl .nsl) Spend.zero.cells := cw_ent _ Ent.nsl Ent.nsl

theorem alt_err {os : List (Option Ob)} {s : Spend} {k b e : Int} (he : altE s k b = e) (h0 : e ≠ 0) : Ent os (.tup [.agg (Spend.zero.cw .nsl .nsl), .int .i64 e]) (.tup [(altS s k b).av, .int .i64 (altE s k b)]) := by
  have e2 : altS s k b = .zero := by rw [altS, if_neg (by rw [he]; exact h0)]
  rw [e2, he]
  exact Ent.tup ⟨Ent.agg zero_ent, Ent.refl _, trivial⟩

theorem tmod_bnd {b n : Int} (hb : 0 ≤ b) (hn : 0 < n) : 0 ≤ Int.tmod b n ∧ Int.tmod b n < n := by
  rw [Int.tmod_eq_emod_of_nonneg hb]; exact ⟨Int.emod_nonneg _ (by omega), Int.emod_lt_of_pos _ hn⟩

theorem tm_lt {b : Int} {n : Nat} (hb : 0 ≤ b) (hn : 0 < n) : tm b n < n := by
  have := tmod_bnd hb (show 0 < (n : Int) by omega)
  unfold tm; omega

theorem atL_app {l l' : List AV} {n t : Nat} (h : l.length = n) : atL (l ++ l') (n + t) = atL l' t := by
  subst h
  unfold atL
  rw [List.getD_eq_getElem?_getD, List.getD_eq_getElem?_getD, List.getElem?_append_right (by omega), Nat.add_sub_cancel_left]
theorem atL_left {l l' : List AV} {t : Nat} (h : t < l.length) : atL (l ++ l') t = atL l t := by
  unfold atL
  rw [List.getD_eq_getElem?_getD, List.getD_eq_getElem?_getD, List.getElem?_append_left h]

theorem root_at (s : Spend) (x y : AV) {t : Nat} (ht : t < 32) : intOfAV (atL (s.cw x y) (5 + t)) = s.root t := by
  have e : s.cw x y = [.int .i64 s.bank, .int .i64 s.epoch, .int .i64 s.denom, .int .i64 s.depth, .int .i64 s.a] ++ ((List.range 32).map (fun j => .int .u8 (s.root j)) ++ (s.cw x y).drop 37) := rfl
  rw [e, atL_app (n := 5) rfl, atL_left (by simpa using ht), atL_map_range ht]
  rfl
theorem payee_at (s : Spend) (x y : AV) {t : Nat} (ht : t < 32) : intOfAV (atL (s.cw x y) (43 + t)) = s.payee t := by
  have e : s.cw x y = (s.cw x y).take 43 ++ ((List.range 32).map (fun j => .int .u8 (s.payee j)) ++ (s.cw x y).drop 75) := rfl
  rw [e, atL_app (n := 43) rfl, atL_left (by simpa using ht), atL_map_range ht]
  rfl

theorem alt_root {os : List (Option Ob)} {s : Spend} {k b X : Int} (he : altE s k b = 0) (hk : k = 2) (hX : X = x1 (s.root (tm b 32))) :
    Ent os (.tup [.agg (Spend.cw { s with root := fun j => bif Nat.beq j (tm b 32) then X else s.root j } (lvs s.nl s.lf) (hss s.np s.pf)), .int .i64 0]) (.tup [(altS s k b).av, .int .i64 (altE s k b)]) := by
  subst hX; exact alt_out 2 he hk
theorem alt_payee {os : List (Option Ob)} {s : Spend} {k b X : Int} (he : altE s k b = 0) (hk : k = 5) (hX : X = x1 (s.payee (tm b 32))) :
    Ent os (.tup [.agg (Spend.cw { s with payee := fun j => bif Nat.beq j (tm b 32) then X else s.payee j } (lvs s.nl s.lf) (hss s.np s.pf)), .int .i64 0]) (.tup [(altS s k b).av, .int .i64 (altE s k b)]) := by
  subst hX; exact alt_out 5 he hk

theorem okS_pos {s : Spend} (h : okS s = true) : 0 < s.nl := by
  have h2 : nodeB s.depth s.level s.index = true := by
    cases hb : nodeB s.depth s.level s.index with
    | true => rfl
    | false =>
      have : spanE s.depth s.level s.index ≠ 0 := by simp only [spanE, hb]; split <;> simp
      simp [okS, this] at h
  have e : (s.nl : Int) = IntKind.wrap .i64 (spanZ s.depth s.level s.index - spanA s.depth s.level s.index) := by
    simp [okS] at h
    omega
  obtain ⟨h1, h2', h3, h4, h5, h6⟩ := node_t h2
  obtain ⟨q1, _, q2, q3⟩ := p2 (k := s.depth - s.level) (by omega) (by omega)
  rw [spanZ, spanA, if_pos h2, if_pos h2, Int.add_mul, Int.one_mul, show s.index * 2 ^ (s.depth - s.level).toNat + 2 ^ (s.depth - s.level).toNat - s.index * 2 ^ (s.depth - s.level).toNat = 2 ^ (s.depth - s.level).toNat by omega, wI (by omega) (by omega)] at e
  omega

theorem altE_1 {s : Spend} {k b : Int} (h : okS s = false) : altE s k b = 1 := by simp [altE, h]
theorem altE_2 {s : Spend} {k b : Int} (h : okS s = true) (h' : k < 0 ∨ 11 < k ∨ b < 1 ∨ 1000 < b) : altE s k b = 2 := by simp [altE, h, h']
theorem altE_7 {s : Spend} {k b : Int} (h : okS s = true) (h' : ¬ (k < 0 ∨ 11 < k ∨ b < 1 ∨ 1000 < b)) (h2 : (k = 10 ∧ s.nl = 1) ∨ (k = 11 ∧ s.np = 0)) : altE s k b = 7 := by simp [altE, h, h', h2]
theorem altE_0 {s : Spend} {k b : Int} (h : okS s = true) (h' : ¬ (k < 0 ∨ 11 < k ∨ b < 1 ∨ 1000 < b)) (h2 : ¬ ((k = 10 ∧ s.nl = 1) ∨ (k = 11 ∧ s.np = 0))) : altE s k b = 0 := by simp [altE, h, h', h2]

/-- What is known behind the checks of Alter. -/
structure AltOk (s : Spend) (k b : Int) : Prop where
  e : altE s k b = 0
  k0 : 0 ≤ k
  k1 : k ≤ 11
  b0 : 0 ≤ b
  nl : 0 < s.nl
  np : k = 11 → 0 < s.np

theorem altOk {s : Spend} {k b : Int} (h1 : (!okS s) = false) (h3 : (decide (k < 0) || decide (k ≥ 12) || decide (b < 1) || decide (b > 1000)) = false)
    (h5 : (k == 10 && (s.nl : Int) == 1 || k == 11 && (s.np : Int) == 0) = false) : AltOk s k b := by
  have h : okS s = true := by simpa using h1
  simp at h3
  simp at h5
  refine ⟨altE_0 h (by omega) (by omega), by omega, by omega, by omega, okS_pos h, fun hk => by omega⟩
theorem altNo1 {s : Spend} {k b : Int} (h1 : (!okS s) = true) : altE s k b = 1 := altE_1 (by simpa using h1)
theorem altNo2 {s : Spend} {k b : Int} (h1 : (!okS s) = false) (h3 : (decide (k < 0) || decide (k ≥ 12) || decide (b < 1) || decide (b > 1000)) = true) : altE s k b = 2 := altE_2 (by simpa using h1) (by simp at h3; omega)
theorem altNo7 {s : Spend} {k b : Int} (h1 : (!okS s) = false) (h3 : (decide (k < 0) || decide (k ≥ 12) || decide (b < 1) || decide (b > 1000)) = false)
    (h5 : (k == 10 && (s.nl : Int) == 1 || k == 11 && (s.np : Int) == 0) = true) : altE s k b = 7 := altE_7 (by simpa using h1) (by simp at h3; omega) (by simp at h5; omega)
theorem last_bnd {s : Spend} (h : 0 < s.nl) (h' : s.nl ≤ 1000) : 0 ≤ IntKind.wrap .i64 ((s.nl : Int) - 1) ∧ IntKind.wrap .i64 ((s.nl : Int) - 1) < s.nl := by
  rw [wI (by omega) (by omega)]; omega

theorem r12 {k b : Int} {c : Bool} (h : (decide (k < 0) || decide (k > 11) || decide (b < 1) || decide (b > 1000)) = c) : (decide (k < 0) || decide (k ≥ 12) || decide (b < 1) || decide (b > 1000)) = c := by
  rw [← h, show decide (k ≥ 12) = decide (k > 11) from decide_eq_decide.2 (by omega)]

/-- A spend of one leaf. -/
def Spend.leaf4 : Spend := { Spend.zero with nl := 1, lf := fun _ j => bif Nat.beq j 0 then 4 else 0 }
theorem leaf4_ent {os : List (Option Ob)} : EntL os (Spend.zero.cw (.isl 3 1 fun r k => atL (List.getD [[.int .i64 4, .int .i64 0, .int .i64 0]] r []) k) .nsl) Spend.leaf4.cells := by
  refine cw_ent Spend.leaf4 (Ent.isl fun i j hi hj => ?_) Ent.nsl
  match i, hi with
  | 0, _ => match j, hj with
    | 0, _ => rfl
    | 1, _ => rfl
    | 2, _ => rfl

theorem alt_len (s : Spend) (b : Int) (q : Nat) : (alt s b q).nl = s.nl ∧ (alt s b q).np = s.np := by
  unfold alt
  split <;> exact ⟨rfl, rfl⟩
theorem altS_len (s : Spend) (k b : Int) : (altS s k b).nl ≤ s.nl ∧ (altS s k b).np ≤ s.np := by
  unfold altS
  split
  · rw [(alt_len s b k.toNat).1, (alt_len s b k.toNat).2]; simp
  · exact ⟨Nat.zero_le _, Nat.zero_le _⟩

end Go.Sp
