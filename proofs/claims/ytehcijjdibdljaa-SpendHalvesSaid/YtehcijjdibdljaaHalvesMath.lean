/-
  The plain law of SpendHalves: what Span and Amount return, and that the halves are the whole.
-/
import Derived.Test.YtehcijjdibdljaaAmUse
namespace Go.Proofs.Ytehcijjdibdljaa
open Go Go.Am

theorem wI {n : Int} (h : -9223372036854775808 ≤ n) (h' : n ≤ 9223372036854775807) : IntKind.wrap .i64 n = n := by
  simp only [IntKind.wrap, IntKind.bits, IntKind.signed]
  simp only [Bool.true_and, decide_eq_true_eq, ge_iff_le]
  split <;> omega

def nodeB (d l i : Int) : Bool := decide (0 ≤ d ∧ d ≤ 5 ∧ 0 ≤ l ∧ l ≤ d ∧ 0 ≤ i ∧ i < 2 ^ l.toNat)
def spanA (d l i : Int) : Int := if nodeB d l i then i * 2 ^ (d - l).toNat else 0
def spanZ (d l i : Int) : Int := if nodeB d l i then (i + 1) * 2 ^ (d - l).toNat else 0
def spanE (d l i : Int) : Int := if d < 0 ∨ 5 < d then 1 else if nodeB d l i then 0 else 2
def amE (v d l i : Int) : Int := if v < 0 ∨ 1099511627776 < v ∨ d < 0 ∨ 5 < d then 1 else if nodeB d l i then 0 else 2
def am (v d l i : Int) : Int := if amE v d l i = 0 then v / 2 ^ l.toNat else 0

theorem node_m (d l i : Int) : (decide (d ≥ 0) && decide (d ≤ 5) && decide (l ≥ 0) && decide (l ≤ d) && decide (i ≥ 0) && decide (i < IntKind.wrap IntKind.i64 (1 * 2 ^ min (Int.toNat l) 64))) = nodeB d l i := by
  by_cases hl : 0 ≤ l ∧ l ≤ 5
  · have : IntKind.wrap IntKind.i64 (1 * 2 ^ min (Int.toNat l) 64) = 2 ^ l.toNat := by
      rcases (by omega : l = 0 ∨ l = 1 ∨ l = 2 ∨ l = 3 ∨ l = 4 ∨ l = 5) with rfl | rfl | rfl | rfl | rfl | rfl <;> decide
    rw [this]
    simp [nodeB, Bool.and_assoc]
  · rw [Bool.eq_iff_iff]
    simp [nodeB]
    constructor
    · intro h; omega
    · intro h; omega

theorem node_t {d l i : Int} (h : nodeB d l i = true) : 0 ≤ d ∧ d ≤ 5 ∧ 0 ≤ l ∧ l ≤ d ∧ 0 ≤ i ∧ i < 2 ^ l.toNat := by simpa [nodeB] using h

theorem p2 {k : Int} (h0 : 0 ≤ k) (h1 : k ≤ 5) : IntKind.wrap IntKind.i64 (1 * 2 ^ min (Int.toNat k) 64) = 2 ^ k.toNat ∧ min (Int.toNat k) 64 = k.toNat ∧ 1 ≤ (2 : Int) ^ k.toNat ∧ (2 : Int) ^ k.toNat ≤ 32 := by
  rcases (by omega : k = 0 ∨ k = 1 ∨ k = 2 ∨ k = 3 ∨ k = 4 ∨ k = 5) with rfl | rfl | rfl | rfl | rfl | rfl <;> decide

theorem span_1 {d l i : Int} (h : (decide (d < 0) || decide (d > 5)) = true) : spanA d l i = 0 ∧ spanZ d l i = 0 ∧ spanE d l i = 1 := by
  have hd : d < 0 ∨ 5 < d := by simpa using h
  have hn : nodeB d l i = false := by
    cases hb : nodeB d l i with
    | false => rfl
    | true => have := node_t hb; omega
  simp [spanA, spanZ, spanE, hn, hd]

theorem span_2 {d l i : Int} (h : (decide (d < 0) || decide (d > 5)) = false) (hn : (!nodeB d l i) = true) : spanA d l i = 0 ∧ spanZ d l i = 0 ∧ spanE d l i = 2 := by
  have hd : ¬ (d < 0 ∨ 5 < d) := by simpa using h
  have hn : nodeB d l i = false := by simpa using hn
  simp [spanA, spanZ, spanE, hn, hd]

theorem bnd {i a b : Int} (h0 : 0 ≤ i) (h1 : i < a) (h2 : a ≤ 32) (h3 : 1 ≤ b) (h4 : b ≤ 32) : 0 ≤ i * b ∧ i * b ≤ 1024 ∧ 0 ≤ (i + 1) * b ∧ (i + 1) * b ≤ 1056 := by
  have e1 : i * b ≤ 32 * 32 := Int.mul_le_mul (by omega) h4 (by omega) (by omega)
  have e2 := Int.mul_nonneg h0 (show 0 ≤ b by omega)
  have e3 : (i + 1) * b = i * b + b := by rw [Int.add_mul, Int.one_mul]
  omega

theorem span_3 {d l i : Int} (hn : (!nodeB d l i) = false) : IntKind.wrap .i64 (i * IntKind.wrap .i64 (1 * 2 ^ min (Int.toNat (IntKind.wrap .i64 (d - l))) 64)) = spanA d l i ∧
    IntKind.wrap .i64 (IntKind.wrap .i64 (i + 1) * IntKind.wrap .i64 (1 * 2 ^ min (Int.toNat (IntKind.wrap .i64 (d - l))) 64)) = spanZ d l i ∧ spanE d l i = 0 ∧ 0 ≤ IntKind.wrap .i64 (d - l) := by
  have hn : nodeB d l i = true := by simpa using hn
  obtain ⟨h1, h2, h3, h4, h5, h6⟩ := node_t hn
  have e : IntKind.wrap .i64 (d - l) = d - l := wI (by omega) (by omega)
  obtain ⟨q1, _, q2, q3⟩ := p2 (k := d - l) (by omega) (by omega)
  obtain ⟨_, _, r2, r3⟩ := p2 (k := l) (by omega) (by omega)
  obtain ⟨b1, b2, b3, b4⟩ := bnd h5 h6 r3 q2 q3
  rw [e, q1]
  rw [wI (n := i + 1) (by omega) (by omega), wI (by omega) (by omega), wI (by omega) (by omega)]
  simp [spanA, spanZ, spanE, hn]
  omega

theorem am_1 {v d l i : Int} (h : (decide (v < 0) || decide (v > 1099511627776) || decide (d < 0) || decide (d > 5)) = true) : am v d l i = 0 ∧ amE v d l i = 1 := by
  have hd : v < 0 ∨ 1099511627776 < v ∨ d < 0 ∨ 5 < d := by simp at h; omega
  have : amE v d l i = 1 := by simp only [amE, if_pos hd]
  simp [am, this]
theorem am_2 {v d l i : Int} (h : (decide (v < 0) || decide (v > 1099511627776) || decide (d < 0) || decide (d > 5)) = false) (hn : (!nodeB d l i) = true) : am v d l i = 0 ∧ amE v d l i = 2 := by
  have hd : ¬ (v < 0 ∨ 1099511627776 < v ∨ d < 0 ∨ 5 < d) := by simp at h; omega
  have hn : nodeB d l i = false := by simpa using hn
  have : amE v d l i = 2 := by simp only [amE, if_neg hd, hn]; simp
  simp [am, this]
theorem am_3 {v d l i : Int} (h : (decide (v < 0) || decide (v > 1099511627776) || decide (d < 0) || decide (d > 5)) = false) (hn : (!nodeB d l i) = false) : Int.fdiv v (2 ^ min (Int.toNat l) 64) = am v d l i ∧ amE v d l i = 0 ∧ 0 ≤ l := by
  have hd : ¬ (v < 0 ∨ 1099511627776 < v ∨ d < 0 ∨ 5 < d) := by simp at h; omega
  have hn : nodeB d l i = true := by simpa using hn
  obtain ⟨h1, h2, h3, h4, h5, h6⟩ := node_t hn
  have : amE v d l i = 0 := by simp only [amE, if_neg hd, hn]; simp
  obtain ⟨_, q1, q2, q3⟩ := p2 (k := l) (by omega) (by omega)
  rw [q1, Int.fdiv_eq_ediv_of_nonneg _ (by omega)]
  simp [am, this]
  omega

/-- At a node that is: all that is asked, for whole numbers d and l. -/
theorem whole_m {d l i v : Int} (hv : 0 ≤ v) (hv' : v ≤ 4294967295) (hn : nodeB d l i = true) :
    ∃ X, IntKind.wrap .i64 (IntKind.wrap .i64 v * 2 ^ min (Int.toNat d) 64) = X ∧ amE X d l i = 0 ∧ amE X d 0 0 = 0 ∧ spanE d 0 0 = 0 ∧ am X d 0 0 = X ∧ spanA d 0 0 = 0 ∧ spanZ d 0 0 = IntKind.wrap .i64 (1 * 2 ^ min (Int.toNat d) 64) ∧
      am X d l i = IntKind.wrap .i64 (IntKind.wrap .i64 v * IntKind.wrap .i64 (spanZ d l i - spanA d l i)) ∧ IntKind.wrap .i64 (l + 1) = l + 1 ∧ IntKind.wrap .i64 (2 * i) = 2 * i ∧ IntKind.wrap .i64 (2 * i + 1) = 2 * i + 1 ∧
      (l = d → spanE d (l + 1) (2 * i) = 2 ∧ spanE d (l + 1) (2 * i + 1) = 2 ∧ spanZ d l i = IntKind.wrap .i64 (spanA d l i + 1)) ∧
      (l ≠ d → spanE d (l + 1) (2 * i) = 0 ∧ spanE d (l + 1) (2 * i + 1) = 0 ∧ spanA d (l + 1) (2 * i) = spanA d l i ∧ spanZ d (l + 1) (2 * i) = spanA d (l + 1) (2 * i + 1) ∧ spanZ d (l + 1) (2 * i + 1) = spanZ d l i ∧
        amE X d (l + 1) (2 * i) = 0 ∧ amE X d (l + 1) (2 * i + 1) = 0 ∧ am X d (l + 1) (2 * i) = am X d (l + 1) (2 * i + 1) ∧ IntKind.wrap .i64 (am X d (l + 1) (2 * i) + am X d (l + 1) (2 * i + 1)) = am X d l i) := by
  obtain ⟨h1, h2, h3, h4, h5, h6⟩ := node_t hn
  have hpow : (2 : Int) ^ d.toNat = 2 ^ (d - l).toNat * 2 ^ l.toNat := by rw [← Int.pow_add]; congr 1; omega
  obtain ⟨d0, d1, d2, d3⟩ := p2 (k := d) h1 h2
  obtain ⟨_, _, p0, p1⟩ := p2 (k := d - l) (by omega) (by omega)
  obtain ⟨_, _, q0, q1⟩ := p2 (k := l) (by omega) (by omega)
  have hvd : v * 2 ^ d.toNat ≤ 4294967295 * 32 := Int.mul_le_mul hv' d3 (by omega) (by omega)
  have hvd0 : 0 ≤ v * 2 ^ d.toNat := Int.mul_nonneg hv (by omega)
  have hvp : v * 2 ^ (d - l).toNat ≤ 4294967295 * 32 := Int.mul_le_mul hv' p1 (by omega) (by omega)
  have hvp0 : 0 ≤ v * 2 ^ (d - l).toNat := Int.mul_nonneg hv (by omega)
  have hwv : IntKind.wrap .i64 v = v := wI (by omega) (by omega)
  have hn0 : nodeB d 0 0 = true := by simp [nodeB]; omega
  have E : ∀ l' i', nodeB d l' i' = true → amE (v * 2 ^ d.toNat) d l' i' = 0 ∧ spanE d l' i' = 0 ∧ am (v * 2 ^ d.toNat) d l' i' = v * 2 ^ d.toNat / 2 ^ l'.toNat ∧ spanA d l' i' = i' * 2 ^ (d - l').toNat ∧ spanZ d l' i' = (i' + 1) * 2 ^ (d - l').toNat := by
    intro l' i' hb
    have e1 : amE (v * 2 ^ d.toNat) d l' i' = 0 := by simp only [amE, hb]; rw [if_neg (by omega)]; simp
    refine ⟨e1, ?_, by simp [am, e1], by simp [spanA, hb], by simp [spanZ, hb]⟩
    simp only [spanE, hb]; rw [if_neg (by omega)]; simp
  obtain ⟨a1, a2, a3, a4, a5⟩ := E l i hn
  obtain ⟨b1, b2, b3, b4, b5⟩ := E 0 0 hn0
  obtain ⟨c1, c2, c3, c4⟩ := bnd h5 h6 q1 p0 p1
  have hmul : v * 2 ^ d.toNat / 2 ^ l.toNat = v * 2 ^ (d - l).toNat := by
    rw [hpow, ← Int.mul_assoc, Int.mul_ediv_cancel _ (by omega)]
  refine ⟨v * 2 ^ d.toNat, by rw [hwv, d1]; exact wI (by omega) (by omega), a1, b1, b2, by rw [b3]; simp, by rw [b4]; simp, by rw [b5, d0]; simp, ?_, wI (by omega) (by omega), wI (by omega) (by omega), wI (by omega) (by omega), fun e => ?_, fun e => ?_⟩
  · have e1 : (i + 1) * 2 ^ (d - l).toNat - i * 2 ^ (d - l).toNat = 2 ^ (d - l).toNat := by rw [Int.add_mul]; omega
    rw [a3, a4, a5, e1, hwv, hmul, wI (n := 2 ^ (d - l).toNat) (by omega) (by omega), wI (by omega) (by omega)]
  · have hb : ∀ i', nodeB d (l + 1) i' = false := by
      intro i'
      cases hb : nodeB d (l + 1) i' with
      | false => rfl
      | true => have := node_t hb; omega
    have hs : ∀ i', spanE d (l + 1) i' = 2 := by intro i'; simp only [spanE, hb]; rw [if_neg (by omega)]; simp
    refine ⟨hs _, hs _, ?_⟩
    subst e
    rw [a4, a5, wI (by omega) (by omega)]
    simp
  · have hq : (2 : Int) ^ (l + 1).toNat = 2 * 2 ^ l.toNat := by
      rw [show (l + 1).toNat = l.toNat + 1 by omega, Int.pow_succ]; omega
    have hp : (2 : Int) ^ (d - l).toNat = 2 * 2 ^ (d - (l + 1)).toNat := by
      rw [show (d - l).toNat = (d - (l + 1)).toNat + 1 by omega, Int.pow_succ]; omega
    have hb1 : nodeB d (l + 1) (2 * i) = true := by simp only [nodeB, decide_eq_true_eq, hq]; omega
    have hb2 : nodeB d (l + 1) (2 * i + 1) = true := by simp only [nodeB, decide_eq_true_eq, hq]; omega
    obtain ⟨f1, f2, f3, f4, f5⟩ := E _ _ hb1
    obtain ⟨g1, g2, g3, g4, g5⟩ := E _ _ hb2
    have hm2 : v * 2 ^ d.toNat / 2 ^ (l + 1).toNat = v * 2 ^ (d - (l + 1)).toNat := by
      have : (2 : Int) ^ d.toNat = 2 ^ (d - (l + 1)).toNat * 2 ^ (l + 1).toNat := by rw [← Int.pow_add]; congr 1; omega
      rw [this, ← Int.mul_assoc, Int.mul_ediv_cancel _ (by omega)]
    generalize (2 : Int) ^ (d - (l + 1)).toNat = p at *
    have hx : v * (2 * p) = 2 * (v * p) := by rw [Int.mul_left_comm]
    rw [hp, hx] at hvp hvp0
    refine ⟨f2, g2, ?_, ?_, ?_, f1, g1, by rw [f3, g3], ?_⟩
    · rw [f4, a4, hp, Int.mul_assoc, Int.mul_left_comm]
    · rw [f5, g4]
    · rw [g5, a5, hp]
      rw [show 2 * i + 1 + 1 = 2 * (i + 1) by omega, Int.mul_assoc, Int.mul_left_comm]
    · rw [f3, g3, a3, hm2, hmul, hp, hx, wI (by omega) (by omega)]
      omega

theorem halves_n {d l i : Int} (h : (spanE d l i != 0) = false) : nodeB d l i = true := by
  have h : spanE d l i = 0 := by simpa using h
  cases hb : nodeB d l i with
  | true => rfl
  | false => simp only [spanE, hb] at h; split at h <;> simp at h
theorem halves_d {d l i : Int} (h : (spanE d l i != 0) = false) : 0 ≤ d := (node_t (halves_n h)).1
theorem halves_0 {d l i : Int} (h : (spanE d l i != 0) = true) : AV.bool (spanA d l i == 0 && spanZ d l i == 0) = AV.bool true := by
  have h : spanE d l i ≠ 0 := by simpa using h
  have hb : nodeB d l i = false := by
    cases hb : nodeB d l i with
    | false => rfl
    | true => exfalso; apply h; have := node_t hb; simp only [spanE, hb]; rw [if_neg (by omega)]; simp
  simp [spanA, spanZ, hb]
theorem halves_1 {d l i v : Int} (hv : 0 ≤ v) (hv' : v ≤ 4294967295) (h : (spanE d l i != 0) = false) : (amE (IntKind.wrap IntKind.i64 (IntKind.wrap IntKind.i64 v * 2 ^ min (Int.toNat d) 64)) d l i != 0 || amE (IntKind.wrap IntKind.i64 (IntKind.wrap IntKind.i64 v * 2 ^ min (Int.toNat d) 64)) d 0 0 != 0 || spanE d 0 0 != 0 || am (IntKind.wrap IntKind.i64 (IntKind.wrap IntKind.i64 v * 2 ^ min (Int.toNat d) 64)) d 0 0 != IntKind.wrap IntKind.i64 (IntKind.wrap IntKind.i64 v * 2 ^ min (Int.toNat d) 64) || spanA d 0 0 != 0 || spanZ d 0 0 != IntKind.wrap IntKind.i64 (1 * 2 ^ min (Int.toNat d) 64) || am (IntKind.wrap IntKind.i64 (IntKind.wrap IntKind.i64 v * 2 ^ min (Int.toNat d) 64)) d l i != IntKind.wrap IntKind.i64 (IntKind.wrap IntKind.i64 v * IntKind.wrap IntKind.i64 (spanZ d l i - spanA d l i))) = false := by
  obtain ⟨X, e, r1, r2, r3, r4, r5, r6, r7, _⟩ := whole_m hv hv' (halves_n h)
  rw [e, r1, r2, r3, r4, r5, r6, r7]
  simp
theorem halves_2 {d l i v : Int} (hv : 0 ≤ v) (hv' : v ≤ 4294967295) (h : (spanE d l i != 0) = false) (h14 : (l == d) = true) : AV.bool (spanE d (IntKind.wrap IntKind.i64 (l + 1)) (IntKind.wrap IntKind.i64 (2 * i)) == 2 && spanE d (IntKind.wrap IntKind.i64 (l + 1)) (IntKind.wrap IntKind.i64 (IntKind.wrap IntKind.i64 (2 * i) + 1)) == 2 && spanZ d l i == IntKind.wrap IntKind.i64 (spanA d l i + 1)) = AV.bool true := by
  obtain ⟨X, e, _, _, _, _, _, _, _, w1, w2, w3, k1, _⟩ := whole_m hv hv' (halves_n h)
  obtain ⟨k1, k2, k3⟩ := k1 (by simpa using h14)
  rw [w1, w2, w3, k1, k2, ← k3]
  simp
theorem halves_3 {d l i v : Int} (hv : 0 ≤ v) (hv' : v ≤ 4294967295) (h : (spanE d l i != 0) = false) (h14 : (l == d) = false) : AV.bool (spanE d (IntKind.wrap IntKind.i64 (l + 1)) (IntKind.wrap IntKind.i64 (2 * i)) == 0 && spanE d (IntKind.wrap IntKind.i64 (l + 1)) (IntKind.wrap IntKind.i64 (IntKind.wrap IntKind.i64 (2 * i) + 1)) == 0 && spanA d (IntKind.wrap IntKind.i64 (l + 1)) (IntKind.wrap IntKind.i64 (2 * i)) == spanA d l i && spanZ d (IntKind.wrap IntKind.i64 (l + 1)) (IntKind.wrap IntKind.i64 (2 * i)) == spanA d (IntKind.wrap IntKind.i64 (l + 1)) (IntKind.wrap IntKind.i64 (IntKind.wrap IntKind.i64 (2 * i) + 1)) && spanZ d (IntKind.wrap IntKind.i64 (l + 1)) (IntKind.wrap IntKind.i64 (IntKind.wrap IntKind.i64 (2 * i) + 1)) == spanZ d l i && amE (IntKind.wrap IntKind.i64 (IntKind.wrap IntKind.i64 v * 2 ^ min (Int.toNat d) 64)) d (IntKind.wrap IntKind.i64 (l + 1)) (IntKind.wrap IntKind.i64 (2 * i)) == 0 && amE (IntKind.wrap IntKind.i64 (IntKind.wrap IntKind.i64 v * 2 ^ min (Int.toNat d) 64)) d (IntKind.wrap IntKind.i64 (l + 1)) (IntKind.wrap IntKind.i64 (IntKind.wrap IntKind.i64 (2 * i) + 1)) == 0 && am (IntKind.wrap IntKind.i64 (IntKind.wrap IntKind.i64 v * 2 ^ min (Int.toNat d) 64)) d (IntKind.wrap IntKind.i64 (l + 1)) (IntKind.wrap IntKind.i64 (2 * i)) == am (IntKind.wrap IntKind.i64 (IntKind.wrap IntKind.i64 v * 2 ^ min (Int.toNat d) 64)) d (IntKind.wrap IntKind.i64 (l + 1)) (IntKind.wrap IntKind.i64 (IntKind.wrap IntKind.i64 (2 * i) + 1)) && IntKind.wrap IntKind.i64 (am (IntKind.wrap IntKind.i64 (IntKind.wrap IntKind.i64 v * 2 ^ min (Int.toNat d) 64)) d (IntKind.wrap IntKind.i64 (l + 1)) (IntKind.wrap IntKind.i64 (2 * i)) + am (IntKind.wrap IntKind.i64 (IntKind.wrap IntKind.i64 v * 2 ^ min (Int.toNat d) 64)) d (IntKind.wrap IntKind.i64 (l + 1)) (IntKind.wrap IntKind.i64 (IntKind.wrap IntKind.i64 (2 * i) + 1))) == am (IntKind.wrap IntKind.i64 (IntKind.wrap IntKind.i64 v * 2 ^ min (Int.toNat d) 64)) d l i) = AV.bool true := by
  obtain ⟨X, e, _, _, _, _, _, _, _, w1, w2, w3, _, k1⟩ := whole_m hv hv' (halves_n h)
  obtain ⟨k1, k2, k3, k4, k5, k6, k7, k8, k9⟩ := k1 (by simpa using h14)
  rw [w1, w2, w3, e, k1, k2, k3, k4, k5, k6, k7, k9, k8]
  simp

end Go.Proofs.Ytehcijjdibdljaa
