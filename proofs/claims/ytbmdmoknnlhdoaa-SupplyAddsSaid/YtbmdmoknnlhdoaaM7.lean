/- Part of the proof: UU19, Mrg3, UU20, UU21, UU22, SpOpen, SpOpenP, ArgsS. -/
import Derived.Test.YtbmdmoknnlhdoaaM5
import Derived.Test.YtbmdmoknnlhdoaaM6
import Derived.Test.YtbmdmoknnlhdoaaProg
import Derived.Test.YtbmdmoknnlhdoaaM3
import Derived.Test.YtbmdmoknnlhdoaaM4
namespace Go.Proofs.Ytbmdmoknnlhdoaa
open Go Go.Am Go.Sp
set_option maxRecDepth 100000

def rmC (n k : Nat) (f g : Nat → Sup) (x : Nat) : List Sup := rmF (catS n f g) x
theorem rmC_l (n k : Nat) (f g : Nat → Sup) (x : Nat) : (rmC n k f g x).length ≤ x := rm_len _ x
def supJ (n : Nat) (f : Nat → Sup) : AV := .isl 7 n fun i j => .int .i64 (supI (f i) j)
theorem supJ_e {os : List (Option Ob)} {n : Nat} {f : Nat → Sup} : Ent os (supJ n f) (supA n f) := Ent.isl fun i j _ hj => supI_at _ hj
theorem supJ_f {os : List (Option Ob)} {n : Nat} {f : Nat → Sup} : Ent os (supA n f) (supJ n f) := Ent.isl fun i j _ hj => (supI_at _ hj).symm
theorem ob_old {os : List (Option Ob)} {O O' : List Sup} {s : Sup} {z : Nat} {F : Nat → Nat → Int} (h : O' = O.set z (addS O[z]! s)) (h1 : ∀ r c, r ≠ z → c < 7 → F r c = supI O[r]! c) (h2 : ∀ c, c < 7 → F z c = supI (addS O[z]! s) c) :
    ObEnt os ⟨7, O.length, true, .fn fun i j => .int .i64 (F i j)⟩ ⟨7, O'.length, true, .fn fun i j => .int .i64 (supI O'[i]! j)⟩ := by
  subst h
  refine ⟨rfl, (List.length_set ..).symm, rfl, fun r c hr hc => Ent.of_eq (congrArg (AV.int _) ?_)⟩
  have hr : r < O.length := hr
  show F r c = supI ((O.set z (addS O[z]! s))[r]!) c
  rw [get_set hr]
  by_cases e : r = z
  · subst e; rw [if_pos rfl]; exact h2 c hc
  · rw [if_neg e]; exact h1 r c e hc
theorem ob_new {os : List (Option Ob)} {O O' : List Sup} {s : Sup} {z N : Nat} {F : Nat → Nat → Int} (hz : z ≤ O.length) (h : O' = O.take z ++ s :: O.drop z) (hN : N = O.length + 1) (h1 : ∀ r c, r < z → c < 7 → F r c = supI O[r]! c) (h2 : ∀ c, c < 7 → F z c = supI s c) (h3 : ∀ r c, z < r → c < 7 → F r c = supI O[r - 1]! c) :
    ObEnt os ⟨7, N, true, .fn fun i j => .int .i64 (F i j)⟩ ⟨7, O'.length, true, .fn fun i j => .int .i64 (supI O'[i]! j)⟩ := by
  subst h hN
  refine ⟨rfl, by simp; omega, rfl, fun r c hr hc => Ent.of_eq (congrArg (AV.int _) ?_)⟩
  show F r c = supI ((O.take z ++ s :: O.drop z)[r]!) c
  rw [get_ins hz]
  by_cases e : r < z
  · rw [if_pos e]; exact h1 r c e hc
  · rw [if_neg e]
    by_cases e2 : r = z
    · subst e2; rw [if_pos rfl]; exact h2 c hc
    · rw [if_neg e2]; exact h3 r c (by omega) hc
theorem lt7 {p : Nat → Prop} (h0 : p 0) (h1 : p 1) (h2 : p 2) (h3 : p 3) (h4 : p 4) (h5 : p 5) (h6 : p 6) : ∀ c, c < 7 → p c := fun c hc => by
  have : c = 0 ∨ c = 1 ∨ c = 2 ∨ c = 3 ∨ c = 4 ∨ c = 5 ∨ c = 6 := by omega
  rcases this with rfl | rfl | rfl | rfl | rfl | rfl | rfl <;> assumption
theorem beq_n {r z : Nat} (h : r ≠ z) : Nat.beq r z = false := by
  cases hb : Nat.beq r z with
  | false => rfl
  | true => exact absurd (Nat.eq_of_beq_eq_true hb) h
theorem rmerge_w (n k : Nat) (f g : Nat → Sup) (hn : n ≤ 100000) (hk : k ≤ 100000) (h1 : listB n f = true) (h2 : listB k g = true) : Pure Try.prog gl0 13 [supJ n f, supJ k g] (.tup [supL (mrgV true (n + k) (catS n f g)).1, .int .i64 (mrgV true (n + k) (catS n f g)).2]) := by
  obtain ⟨hn1, hv1⟩ := list_spec h1
  obtain ⟨hn2, hv2⟩ := list_spec h2
  have c1 := (rlist_c n f (by omega)).via (args := [supJ n f]) ⟨supJ_e, trivial⟩
  have c2 := (rlist_c k g (by omega)).via (args := [supJ k g]) ⟨supJ_e, trivial⟩
  rw [h1] at c1; rw [h2] at c2
  refine pure_sk (own := ow0) Try.func13 (by kernel_rfl) mixed (by kernel_rfl)
    (.sc (true) 27 ([AV.isl (7) n fun (i j : Nat) => Zi (supI (f i) j)]) (AV.bool true) (.sc (true) 27 ([AV.isl (7) k fun (i j : Nat) => Zi (supI (g i) j)]) (AV.bool true) (.ff (.req ((0 + n) * 56 ≤ 140737488355328) (.req ((0 + n + k) * 56 ≤ 140737488355328) (.loop ({ x : Nat // x ≤ n + k }) (fun (x : { x : Nat // x ≤ n + k }) => mkSt [4, 6, 7, 8] [AV.nsl, AV.osl (0 : Nat) (7 : Nat) (0 : Nat) (n + k), AV.osl (1 : Nat) (7 : Nat) (0 : Nat) (List.length (rmC n k f g (x.1))), Zi (↑(x.1) : Int)] [some { es := (7 : Nat), n := n + k, mu := true, f := Rep.fn fun (i j : Nat) => Zi (supI (catS n f g i) j) }, some { es := (7 : Nat), n := List.length (rmC n k f g (x.1)), mu := true, f := Rep.fn fun (i j : Nat) => Zi (supI (rmC n k f g (x.1))[i]! j) }]) (fun (x : { x : Nat // x ≤ n + k }) => n + k - x.1) (⟨(0 : Nat), Nat.zero_le (n + k)⟩) ([4, 6, 7, 8]) ([112, 1937]) ([AV.nsl, AV.osl (0) (7) (0) (0 + n + k), AV.nsl, Zi 0]) ([some { es := 7, n := 0 + n + k, mu := true, f := Rep.fn fun (i j : Nat) => Zi (bif Nat.blt i ((0 : Nat) + n) then supI (f i) j else supI (g (i - ((0 : Nat) + n))) j) }, some { es := 7, n := 0, mu := true, f := Rep.lst [] }]) (fun x5 => (.br (decide ((↑x5.1 : Int) < (↑(n + k) : Int))) (.loop ({ x : Nat // x ≤ List.length (rmC n k f g (x5.1)) ∧ (fun (y : Nat) => ∀ (j : Nat), j < y → befB (rmC n k f g (x5.1))[j]! (catS n f g (x5.1)) = true) x }) (fun (x : { x : Nat // x ≤ List.length (rmC n k f g (x5.1)) ∧ (fun (y : Nat) => ∀ (j : Nat), j < y → befB (rmC n k f g (x5.1))[j]! (catS n f g (x5.1)) = true) x }) => mkSt [4, 6, 7, 8, 9] [AV.nsl, AV.osl (0) (7) (0) (n + k), AV.osl (1) (7) (0) (List.length (rmC n k f g (x5.1))), Zi (↑x5.1 : Int), Zi (↑(x.1) : Int)] [some { es := 7, n := n + k, mu := true, f := Rep.fn fun (i j : Nat) => Zi (supI (catS n f g i) j) }, some { es := 7, n := List.length (rmC n k f g (x5.1)), mu := true, f := Rep.fn fun (i j : Nat) => Zi (supI (rmC n k f g (x5.1))[i]! j) }]) (fun (x : { x : Nat // x ≤ List.length (rmC n k f g (x5.1)) ∧ (fun (y : Nat) => ∀ (j : Nat), j < y → befB (rmC n k f g (x5.1))[j]! (catS n f g (x5.1)) = true) x }) => List.length (rmC n k f g (x5.1)) - x.1) (⟨(0 : Nat), ⟨Nat.zero_le (List.length (rmC n k f g (x5.1))), fun (j : Nat) (hj : j < (0 : Nat)) => absurd hj (Nat.not_lt_zero j)⟩⟩) ([4, 6, 7, 8, 9]) ([0, 1]) ([AV.nsl, AV.osl (0) (7) (0) (n + k), AV.osl (1) (7) (0) (List.length (rmC n k f g (x5.1))), Zi (↑x5.1 : Int), Zi 0]) ([some { es := 7, n := n + k, mu := true, f := Rep.fn fun (i j : Nat) => Zi (supI (catS n f g i) j) }, some { es := 7, n := List.length (rmC n k f g (x5.1)), mu := true, f := Rep.fn fun (i j : Nat) => Zi (supI (rmC n k f g (x5.1))[i]! j) }]) (fun x7 => (.req ((decide ((↑x7.1 : Int) < (↑(List.length (rmC n k f g (x5.1))) : Int)) == true) = true → (0 : Int) ≤ (↑x7.1 : Int) ∧ (↑x7.1 : Int) < (↑(List.length (rmC n k f g (x5.1))) : Int)) (.req ((decide ((↑x7.1 : Int) < (↑(List.length (rmC n k f g (x5.1))) : Int)) == true) = true → (0 : Int) ≤ (↑x5.1 : Int) ∧ (↑x5.1 : Int) < (↑(n + k) : Int)) (.sc (decide ((↑x7.1 : Int) < (↑(List.length (rmC n k f g (x5.1))) : Int)) == true) 28 ([AV.agg [Zi (supI (rmC n k f g x5.1)[Int.toNat (↑x7.1 : Int) + 0]! (0)), Zi (supI (rmC n k f g x5.1)[Int.toNat (↑x7.1 : Int) + 0]! (1)), Zi (supI (rmC n k f g x5.1)[Int.toNat (↑x7.1 : Int) + 0]! (2)), Zi (supI (rmC n k f g x5.1)[Int.toNat (↑x7.1 : Int) + 0]! (3)), Zi (supI (rmC n k f g x5.1)[Int.toNat (↑x7.1 : Int) + 0]! (4)), Zi (supI (rmC n k f g x5.1)[Int.toNat (↑x7.1 : Int) + 0]! (5)), Zi (supI (rmC n k f g x5.1)[Int.toNat (↑x7.1 : Int) + 0]! (6))], AV.agg [Zi (supI (catS n f g (Int.toNat (↑x5.1 : Int) + 0)) (0)), Zi (supI (catS n f g (Int.toNat (↑x5.1 : Int) + 0)) (1)), Zi (supI (catS n f g (Int.toNat (↑x5.1 : Int) + 0)) (2)), Zi (supI (catS n f g (Int.toNat (↑x5.1 : Int) + 0)) (3)), Zi (supI (catS n f g (Int.toNat (↑x5.1 : Int) + 0)) (4)), Zi (supI (catS n f g (Int.toNat (↑x5.1 : Int) + 0)) (5)), Zi (supI (catS n f g (Int.toNat (↑x5.1 : Int) + 0)) (6))]]) (AV.bool (befB (rmC n k f g x5.1)[Int.toNat (↑x7.1 : Int) + 0]! (catS n f g (Int.toNat (↑x5.1 : Int) + 0)))) (.br (decide ((↑x7.1 : Int) < (↑(List.length (rmC n k f g (x5.1))) : Int)) && befB (rmC n k f g x5.1)[Int.toNat (↑x7.1 : Int) + 0]! (catS n f g (Int.toNat (↑x5.1 : Int) + 0))) (.again (Again (0) (fun (x : { x : Nat // x ≤ List.length (rmC n k f g (x5.1)) ∧ (fun (y : Nat) => ∀ (j : Nat), j < y → befB (rmC n k f g (x5.1))[j]! (catS n f g (x5.1)) = true) x }) => mkSt [4, 6, 7, 8, 9] [AV.nsl, AV.osl (0) (7) (0) (n + k), AV.osl (1) (7) (0) (List.length (rmC n k f g (x5.1))), Zi (↑x5.1 : Int), Zi (↑(x.1) : Int)] [some { es := 7, n := n + k, mu := true, f := Rep.fn fun (i j : Nat) => Zi (supI (catS n f g i) j) }, some { es := 7, n := List.length (rmC n k f g (x5.1)), mu := true, f := Rep.fn fun (i j : Nat) => Zi (supI (rmC n k f g (x5.1))[i]! j) }]) (fun (x : { x : Nat // x ≤ List.length (rmC n k f g (x5.1)) ∧ (fun (y : Nat) => ∀ (j : Nat), j < y → befB (rmC n k f g (x5.1))[j]! (catS n f g (x5.1)) = true) x }) => List.length (rmC n k f g (x5.1)) - x.1) x7) ([4, 6, 7, 8, 9]) ([0, 1]) ([AV.nsl, AV.osl (0) (7) (0) (n + k), AV.osl (1) (7) (0) (List.length (rmC n k f g (x5.1))), Zi (↑x5.1 : Int), Zi (IntKind.wrap IntKind.i64 ((↑x7.1 : Int) + (1 : Int)))]) ([some { es := 7, n := n + k, mu := true, f := Rep.fn fun (i j : Nat) => Zi (supI (catS n f g i) j) }, some { es := 7, n := List.length (rmC n k f g (x5.1)), mu := true, f := Rep.fn fun (i j : Nat) => Zi (supI (rmC n k f g (x5.1))[i]! j) }])) (.req ((decide ((↑x7.1 : Int) < (↑(List.length (rmC n k f g (x5.1))) : Int)) == true) = true → (0 : Int) ≤ (↑x7.1 : Int) ∧ (↑x7.1 : Int) < (↑(List.length (rmC n k f g (x5.1))) : Int)) (.req ((decide ((↑x7.1 : Int) < (↑(List.length (rmC n k f g (x5.1))) : Int)) == true) = true → (0 : Int) ≤ (↑x5.1 : Int) ∧ (↑x5.1 : Int) < (↑(n + k) : Int)) (.sc (decide ((↑x7.1 : Int) < (↑(List.length (rmC n k f g (x5.1))) : Int)) == true) 29 ([AV.agg [Zi (supI (rmC n k f g x5.1)[Int.toNat (↑x7.1 : Int) + 0]! (0)), Zi (supI (rmC n k f g x5.1)[Int.toNat (↑x7.1 : Int) + 0]! (1)), Zi (supI (rmC n k f g x5.1)[Int.toNat (↑x7.1 : Int) + 0]! (2)), Zi (supI (rmC n k f g x5.1)[Int.toNat (↑x7.1 : Int) + 0]! (3)), Zi (supI (rmC n k f g x5.1)[Int.toNat (↑x7.1 : Int) + 0]! (4)), Zi (supI (rmC n k f g x5.1)[Int.toNat (↑x7.1 : Int) + 0]! (5)), Zi (supI (rmC n k f g x5.1)[Int.toNat (↑x7.1 : Int) + 0]! (6))], AV.agg [Zi (supI (catS n f g (Int.toNat (↑x5.1 : Int) + 0)) (0)), Zi (supI (catS n f g (Int.toNat (↑x5.1 : Int) + 0)) (1)), Zi (supI (catS n f g (Int.toNat (↑x5.1 : Int) + 0)) (2)), Zi (supI (catS n f g (Int.toNat (↑x5.1 : Int) + 0)) (3)), Zi (supI (catS n f g (Int.toNat (↑x5.1 : Int) + 0)) (4)), Zi (supI (catS n f g (Int.toNat (↑x5.1 : Int) + 0)) (5)), Zi (supI (catS n f g (Int.toNat (↑x5.1 : Int) + 0)) (6))]]) (AV.bool (keyB (rmC n k f g x5.1)[Int.toNat (↑x7.1 : Int) + 0]! (catS n f g (Int.toNat (↑x5.1 : Int) + 0)))) (.br (decide ((↑x7.1 : Int) < (↑(List.length (rmC n k f g (x5.1))) : Int)) && keyB (rmC n k f g x5.1)[Int.toNat (↑x7.1 : Int) + 0]! (catS n f g (Int.toNat (↑x5.1 : Int) + 0))) (.req ((0 : Int) ≤ (↑x7.1 : Int) ∧ (↑x7.1 : Int) < (↑(List.length (rmC n k f g (x5.1))) : Int)) (.req ((0 : Int) ≤ (↑x5.1 : Int) ∧ (↑x5.1 : Int) < (↑(n + k) : Int)) (.req ((0 : Int) ≤ (↑x7.1 : Int) ∧ (↑x7.1 : Int) < (↑(List.length (rmC n k f g (x5.1))) : Int)) (.req ((0 : Int) ≤ (↑x7.1 : Int) ∧ (↑x7.1 : Int) < (↑(List.length (rmC n k f g (x5.1))) : Int)) (.req ((0 : Int) ≤ (↑x5.1 : Int) ∧ (↑x5.1 : Int) < (↑(n + k) : Int)) (.req ((0 : Int) ≤ (↑x7.1 : Int) ∧ (↑x7.1 : Int) < (↑(List.length (rmC n k f g (x5.1))) : Int)) (.req ((0 : Int) ≤ (↑x7.1 : Int) ∧ (↑x7.1 : Int) < (↑(List.length (rmC n k f g (x5.1))) : Int)) (.req ((0 : Int) ≤ (↑x5.1 : Int) ∧ (↑x5.1 : Int) < (↑(n + k) : Int)) (.req ((0 : Int) ≤ (↑x7.1 : Int) ∧ (↑x7.1 : Int) < (↑(List.length (rmC n k f g (x5.1))) : Int)) (.req ((0 : Int) ≤ (↑x7.1 : Int) ∧ (↑x7.1 : Int) < (↑(List.length (rmC n k f g (x5.1))) : Int)) (.req ((0 : Int) ≤ (↑x5.1 : Int) ∧ (↑x5.1 : Int) < (↑(n + k) : Int)) (.req ((0 : Int) ≤ (↑x7.1 : Int) ∧ (↑x7.1 : Int) < (↑(List.length (rmC n k f g (x5.1))) : Int)) (.again (Again (0) (fun (x : { x : Nat // x ≤ n + k }) => mkSt [4, 6, 7, 8] [AV.nsl, AV.osl (0 : Nat) (7 : Nat) (0 : Nat) (n + k), AV.osl (1 : Nat) (7 : Nat) (0 : Nat) (List.length (rmC n k f g (x.1))), Zi (↑(x.1) : Int)] [some { es := (7 : Nat), n := n + k, mu := true, f := Rep.fn fun (i j : Nat) => Zi (supI (catS n f g i) j) }, some { es := (7 : Nat), n := List.length (rmC n k f g (x.1)), mu := true, f := Rep.fn fun (i j : Nat) => Zi (supI (rmC n k f g (x.1))[i]! j) }]) (fun (x : { x : Nat // x ≤ n + k }) => n + k - x.1) x5) ([4, 6, 7, 8]) ([0, 1]) ([AV.nsl, AV.osl (0) (7) (0) (n + k), AV.osl (1) (7) (0) (List.length (rmC n k f g (x5.1))), Zi (IntKind.wrap IntKind.i64 ((↑x5.1 : Int) + (1 : Int)))]) ([some { es := 7, n := n + k, mu := true, f := Rep.fn fun (i j : Nat) => Zi (supI (catS n f g i) j) }, some { es := 7, n := List.length (rmC n k f g (x5.1)), mu := true, f := Rep.fn fun (i j : Nat) => Zi (bif Nat.beq i (Int.toNat (↑x7.1 : Int) + 0) && (Nat.ble (6) j && Nat.blt j (7)) then IntKind.wrap IntKind.i64 ((bif Nat.beq (Int.toNat (↑x7.1 : Int) + 0) (Int.toNat (↑x7.1 : Int) + 0) && false then IntKind.wrap IntKind.i64 ((bif Nat.beq (Int.toNat (↑x7.1 : Int) + 0) (Int.toNat (↑x7.1 : Int) + 0) && false then IntKind.wrap IntKind.i64 ((bif Nat.beq (Int.toNat (↑x7.1 : Int) + 0) (Int.toNat (↑x7.1 : Int) + 0) && false then IntKind.wrap IntKind.i64 (supI (rmC n k f g x5.1)[Int.toNat (↑x7.1 : Int) + 0]! (3) + supI (catS n f g (Int.toNat (↑x5.1 : Int) + 0)) (3)) else supI (rmC n k f g x5.1)[Int.toNat (↑x7.1 : Int) + 0]! (4)) + supI (catS n f g (Int.toNat (↑x5.1 : Int) + 0)) (4)) else bif Nat.beq (Int.toNat (↑x7.1 : Int) + 0) (Int.toNat (↑x7.1 : Int) + 0) && false then IntKind.wrap IntKind.i64 (supI (rmC n k f g x5.1)[Int.toNat (↑x7.1 : Int) + 0]! (3) + supI (catS n f g (Int.toNat (↑x5.1 : Int) + 0)) (3)) else supI (rmC n k f g x5.1)[Int.toNat (↑x7.1 : Int) + 0]! (5)) + supI (catS n f g (Int.toNat (↑x5.1 : Int) + 0)) (5)) else bif Nat.beq (Int.toNat (↑x7.1 : Int) + 0) (Int.toNat (↑x7.1 : Int) + 0) && false then IntKind.wrap IntKind.i64 ((bif Nat.beq (Int.toNat (↑x7.1 : Int) + 0) (Int.toNat (↑x7.1 : Int) + 0) && false then IntKind.wrap IntKind.i64 (supI (rmC n k f g x5.1)[Int.toNat (↑x7.1 : Int) + 0]! (3) + supI (catS n f g (Int.toNat (↑x5.1 : Int) + 0)) (3)) else supI (rmC n k f g x5.1)[Int.toNat (↑x7.1 : Int) + 0]! (4)) + supI (catS n f g (Int.toNat (↑x5.1 : Int) + 0)) (4)) else bif Nat.beq (Int.toNat (↑x7.1 : Int) + 0) (Int.toNat (↑x7.1 : Int) + 0) && false then IntKind.wrap IntKind.i64 (supI (rmC n k f g x5.1)[Int.toNat (↑x7.1 : Int) + 0]! (3) + supI (catS n f g (Int.toNat (↑x5.1 : Int) + 0)) (3)) else supI (rmC n k f g x5.1)[Int.toNat (↑x7.1 : Int) + 0]! (6)) + supI (catS n f g (Int.toNat (↑x5.1 : Int) + 0)) (6)) else bif Nat.beq i (Int.toNat (↑x7.1 : Int) + 0) && (Nat.ble (5) j && Nat.blt j (6)) then IntKind.wrap IntKind.i64 ((bif Nat.beq (Int.toNat (↑x7.1 : Int) + 0) (Int.toNat (↑x7.1 : Int) + 0) && false then IntKind.wrap IntKind.i64 ((bif Nat.beq (Int.toNat (↑x7.1 : Int) + 0) (Int.toNat (↑x7.1 : Int) + 0) && false then IntKind.wrap IntKind.i64 (supI (rmC n k f g x5.1)[Int.toNat (↑x7.1 : Int) + 0]! (3) + supI (catS n f g (Int.toNat (↑x5.1 : Int) + 0)) (3)) else supI (rmC n k f g x5.1)[Int.toNat (↑x7.1 : Int) + 0]! (4)) + supI (catS n f g (Int.toNat (↑x5.1 : Int) + 0)) (4)) else bif Nat.beq (Int.toNat (↑x7.1 : Int) + 0) (Int.toNat (↑x7.1 : Int) + 0) && false then IntKind.wrap IntKind.i64 (supI (rmC n k f g x5.1)[Int.toNat (↑x7.1 : Int) + 0]! (3) + supI (catS n f g (Int.toNat (↑x5.1 : Int) + 0)) (3)) else supI (rmC n k f g x5.1)[Int.toNat (↑x7.1 : Int) + 0]! (5)) + supI (catS n f g (Int.toNat (↑x5.1 : Int) + 0)) (5)) else bif Nat.beq i (Int.toNat (↑x7.1 : Int) + 0) && (Nat.ble (4) j && Nat.blt j (5)) then IntKind.wrap IntKind.i64 ((bif Nat.beq (Int.toNat (↑x7.1 : Int) + 0) (Int.toNat (↑x7.1 : Int) + 0) && false then IntKind.wrap IntKind.i64 (supI (rmC n k f g x5.1)[Int.toNat (↑x7.1 : Int) + 0]! (3) + supI (catS n f g (Int.toNat (↑x5.1 : Int) + 0)) (3)) else supI (rmC n k f g x5.1)[Int.toNat (↑x7.1 : Int) + 0]! (4)) + supI (catS n f g (Int.toNat (↑x5.1 : Int) + 0)) (4)) else bif Nat.beq i (Int.toNat (↑x7.1 : Int) + 0) && (Nat.ble (3) j && Nat.blt j (4)) then IntKind.wrap IntKind.i64 (supI (rmC n k f g x5.1)[Int.toNat (↑x7.1 : Int) + 0]! (3) + supI (catS n f g (Int.toNat (↑x5.1 : Int) + 0)) (3)) else supI (rmC n k f g x5.1)[i]! j) }])))))))))))))) (.req ((0 : Int) ≤ (↑x7.1 : Int) ∧ (↑x7.1 : Int) ≤ (↑(List.length (rmC n k f g (x5.1))) : Int)) (.req ((0 + Int.toNat (↑x7.1 : Int)) * 56 ≤ 140737488355328) (.req ((0 : Int) ≤ (↑x5.1 : Int) ∧ (↑x5.1 : Int) < (↑(n + k) : Int)) (.req ((0 + Int.toNat (↑x7.1 : Int) + 1) * 56 ≤ 140737488355328) (.req ((0 : Int) ≤ (↑x7.1 : Int) ∧ (↑x7.1 : Int) ≤ (↑(List.length (rmC n k f g (x5.1))) : Int)) (.req ((0 + Int.toNat (↑x7.1 : Int) + 1 + (List.length (rmC n k f g (x5.1)) - Int.toNat (↑x7.1 : Int))) * 56 ≤ 140737488355328) (.again (Again (0) (fun (x : { x : Nat // x ≤ n + k }) => mkSt [4, 6, 7, 8] [AV.nsl, AV.osl (0 : Nat) (7 : Nat) (0 : Nat) (n + k), AV.osl (1 : Nat) (7 : Nat) (0 : Nat) (List.length (rmC n k f g (x.1))), Zi (↑(x.1) : Int)] [some { es := (7 : Nat), n := n + k, mu := true, f := Rep.fn fun (i j : Nat) => Zi (supI (catS n f g i) j) }, some { es := (7 : Nat), n := List.length (rmC n k f g (x.1)), mu := true, f := Rep.fn fun (i j : Nat) => Zi (supI (rmC n k f g (x.1))[i]! j) }]) (fun (x : { x : Nat // x ≤ n + k }) => n + k - x.1) x5) ([4, 6, 7, 8]) ([0, 386]) ([AV.nsl, AV.osl (0) (7) (0) (n + k), AV.osl (1) (7) (0) (0 + Int.toNat (↑x7.1 : Int) + 1 + (List.length (rmC n k f g (x5.1)) - Int.toNat (↑x7.1 : Int))), Zi (IntKind.wrap IntKind.i64 ((↑x5.1 : Int) + (1 : Int)))]) ([some { es := 7, n := n + k, mu := true, f := Rep.fn fun (i j : Nat) => Zi (supI (catS n f g i) j) }, some { es := 7, n := 0 + Int.toNat (↑x7.1 : Int) + 1 + (List.length (rmC n k f g (x5.1)) - Int.toNat (↑x7.1 : Int)), mu := true, f := Rep.fn fun (i j : Nat) => Zi (bif Nat.blt i (0 + Int.toNat (↑x7.1 : Int) + 1) then bif Nat.blt i (0 + Int.toNat (↑x7.1 : Int)) then supI (rmC n k f g x5.1)[i + 0]! j else intOfAV (atL [Zi (supI (catS n f g (Int.toNat (↑x5.1 : Int) + 0)) ((0 : Nat) + 0)), Zi (supI (catS n f g (Int.toNat (↑x5.1 : Int) + 0)) ((0 : Nat) + 1)), Zi (supI (catS n f g (Int.toNat (↑x5.1 : Int) + 0)) ((0 : Nat) + 2)), Zi (supI (catS n f g (Int.toNat (↑x5.1 : Int) + 0)) ((0 : Nat) + 3)), Zi (supI (catS n f g (Int.toNat (↑x5.1 : Int) + 0)) ((0 : Nat) + 4)), Zi (supI (catS n f g (Int.toNat (↑x5.1 : Int) + 0)) ((0 : Nat) + 5)), Zi (supI (catS n f g (Int.toNat (↑x5.1 : Int) + 0)) ((0 : Nat) + 6))] j) else supI (rmC n k f g x5.1)[i - (0 + Int.toNat (↑x7.1 : Int) + 1) + (Int.toNat (↑x7.1 : Int) + 0)]! j) }])))))))))))))))))) (.br (decide ((↑(List.length (rmC n k f g (x5.1))) : Int) > (1000 : Int))) (.out (AV.tup [AV.nsl, Zi 5]) [] (AV.tup [supL (Prod.fst (mrgV true (n + k) (catS n f g))), Zi (Prod.snd (mrgV true (n + k) (catS n f g)))]) []) (.loop ({ x : Nat // x ≤ List.length (rmC n k f g (x5.1)) ∧ (fun (y : Nat) => ∀ (j : Nat), j < y → validS (rmC n k f g (x5.1))[j]! = true) x }) (fun (x : { x : Nat // x ≤ List.length (rmC n k f g (x5.1)) ∧ (fun (y : Nat) => ∀ (j : Nat), j < y → validS (rmC n k f g (x5.1))[j]! = true) x }) => mkSt [7, 11] [AV.osl (0) (7) (0) (List.length (rmC n k f g (x5.1))), Zi (↑(x.1) : Int)] [some { es := 7, n := List.length (rmC n k f g (x5.1)), mu := true, f := Rep.fn fun (i j : Nat) => Zi (supI (rmC n k f g (x5.1))[i]! j) }]) (fun (x : { x : Nat // x ≤ List.length (rmC n k f g (x5.1)) ∧ (fun (y : Nat) => ∀ (j : Nat), j < y → validS (rmC n k f g (x5.1))[j]! = true) x }) => List.length (rmC n k f g (x5.1)) - x.1) (⟨(0 : Nat), ⟨Nat.zero_le (List.length (rmC n k f g (x5.1))), fun (j : Nat) (hj : j < (0 : Nat)) => absurd hj (Nat.not_lt_zero j)⟩⟩) ([7, 11]) ([1]) ([AV.osl (0) (7) (0) (List.length (rmC n k f g (x5.1))), Zi 0]) ([some { es := 7, n := List.length (rmC n k f g (x5.1)), mu := true, f := Rep.fn fun (i j : Nat) => Zi (supI (rmC n k f g (x5.1))[i]! j) }]) (fun x39 => (.br (decide ((↑x39.1 : Int) < (↑(List.length (rmC n k f g (x5.1))) : Int))) (.req ((0 : Int) ≤ (↑x39.1 : Int) ∧ (↑x39.1 : Int) < (↑(List.length (rmC n k f g (x5.1))) : Int)) (.sc (true) 11 ([AV.agg [Zi (supI (rmC n k f g x5.1)[Int.toNat (↑x39.1 : Int) + 0]! (0)), Zi (supI (rmC n k f g x5.1)[Int.toNat (↑x39.1 : Int) + 0]! (1)), Zi (supI (rmC n k f g x5.1)[Int.toNat (↑x39.1 : Int) + 0]! (2)), Zi (supI (rmC n k f g x5.1)[Int.toNat (↑x39.1 : Int) + 0]! (3)), Zi (supI (rmC n k f g x5.1)[Int.toNat (↑x39.1 : Int) + 0]! (4)), Zi (supI (rmC n k f g x5.1)[Int.toNat (↑x39.1 : Int) + 0]! (5)), Zi (supI (rmC n k f g x5.1)[Int.toNat (↑x39.1 : Int) + 0]! (6))]]) (AV.bool (validS (rmC n k f g x5.1)[Int.toNat (↑x39.1 : Int) + 0]!)) (.br (!validS (rmC n k f g x5.1)[Int.toNat (↑x39.1 : Int) + 0]!) (.out (AV.tup [AV.nsl, Zi 9]) [] (AV.tup [supL (Prod.fst (mrgV true (n + k) (catS n f g))), Zi (Prod.snd (mrgV true (n + k) (catS n f g)))]) []) (.again (Again (0) (fun (x : { x : Nat // x ≤ List.length (rmC n k f g (x5.1)) ∧ (fun (y : Nat) => ∀ (j : Nat), j < y → validS (rmC n k f g (x5.1))[j]! = true) x }) => mkSt [7, 11] [AV.osl (0) (7) (0) (List.length (rmC n k f g (x5.1))), Zi (↑(x.1) : Int)] [some { es := 7, n := List.length (rmC n k f g (x5.1)), mu := true, f := Rep.fn fun (i j : Nat) => Zi (supI (rmC n k f g (x5.1))[i]! j) }]) (fun (x : { x : Nat // x ≤ List.length (rmC n k f g (x5.1)) ∧ (fun (y : Nat) => ∀ (j : Nat), j < y → validS (rmC n k f g (x5.1))[j]! = true) x }) => List.length (rmC n k f g (x5.1)) - x.1) x39) ([7, 11]) ([0]) ([AV.osl (0) (7) (0) (List.length (rmC n k f g (x5.1))), Zi (IntKind.wrap IntKind.i64 ((↑x39.1 : Int) + (1 : Int)))]) ([some { es := 7, n := List.length (rmC n k f g (x5.1)), mu := true, f := Rep.fn fun (i j : Nat) => Zi (supI (rmC n k f g (x5.1))[i]! j) }]))))) (.out (AV.tup [AV.isl (7) (List.length (rmC n k f g (x5.1))) fun (r k_1 : Nat) => Zi (supI (rmC n k f g x5.1)[r + 0]! k_1), Zi 0]) [] (AV.tup [supL (Prod.fst (mrgV true (n + k) (catS n f g))), Zi (Prod.snd (mrgV true (n + k) (catS n f g)))]) [])))))))))))))
    (by kernel_rfl) ?_
  refine k_sc (c1) ?_
  refine k_sc (c2) ?_
  refine k_ff ?_
  refine k_req (by first | omega | (simp only [Int.toNat_natCast]; omega)) ?_
  refine k_req (by first | omega | (simp only [Int.toNat_natCast]; omega)) ?_
  refine k_loop (fun _ hs => hs.le (⟨Ent.refl _, Ent.of_eq (congrArg (AV.osl _ _ _) (by omega)), Ent.nil rfl, Ent.refl _, trivial⟩) (⟨⟨rfl, Nat.zero_add _ ▸ rfl, rfl, fun r c _ _ => Ent.of_eq (congrArg (AV.int _) (by show (bif Nat.blt r (0 + n) then _ else _) = supI (if r < n then f r else g (r - n)) c; rw [Nat.zero_add]; by_cases h : r < n; (· rw [blt_t h, if_pos h]; rfl); (· rw [blt_f (by omega), if_neg h]; rfl)))⟩, ObEnt.zero, trivial⟩)) (fun x5 => ?_)
  try (have q5 := x5.2; dsimp only at q5)
  have hl := rmC_l n k f g x5.1
  refine k_br (fun h6 => ?_) (fun h6 => ?_)
  · have g6 := cnd_dec_t h6
    refine k_loop (fun _ hs => hs.le (by repeat' (first | exact trivial | (first | exact Ent.refl _ | exact inc_ent (by omega) | exact Ent.nil rfl | exact Ent.of_eq (congrArg (AV.osl _ _ _) (by first | omega | (dsimp only; omega))) | exact Ent.of_eq (congrArg (AV.int _) (by first | omega | (dsimp only; omega)))) | refine And.intro ?_ ?_)) (by repeat' (first | exact trivial | (first | exact ObEnt.refl _ | exact ObEnt.junk | exact ObEnt.zero | exact ObEnt.push rfl rfl | exact ObEnt.pushRow rfl | exact ObEnt.len (by omega) | exact ObEnt.row (by repeat' (first | exact trivial | (first | exact Ent.refl _ | exact inc_ent (by omega) | exact Ent.nil rfl | exact Ent.of_eq (congrArg (AV.osl _ _ _) (by first | omega | (dsimp only; omega))) | exact Ent.of_eq (congrArg (AV.int _) (by first | omega | (dsimp only; omega)))) | refine And.intro ?_ ?_))) | refine And.intro ?_ ?_))) (fun x7 => ?_)
    try (have q7 := x7.2; dsimp only at q7)
    have l7 := x7.2.1
    refine k_req (fun hr => by have hr := (cnd_eqt_t cnd_dec_t) hr; first | omega | (simp only [Int.toNat_natCast] at *; omega)) ?_
    refine k_req (fun hr => by have hr := (cnd_eqt_t cnd_dec_t) hr; first | omega | (simp only [Int.toNat_natCast] at *; omega)) ?_
    refine k_scg (fun h10 => before_c ((rmC n k f g x5.1)[Int.toNat (↑x7.1 : Int) + 0]!) (catS n f g (Int.toNat (↑x5.1 : Int) + 0))) ?_
    refine k_br (fun h11 => ?_) (fun h11 => ?_)
    · have g11 := (cnd_and_t cnd_dec_t cnd_id_t) h11
      try simp only [Int.toNat_natCast] at g11
      exact k_again (⟨x7.1 + 1, by omega, snoc_all x7.2.2 g11.2⟩) (fun _ hs => hs.le (by repeat' (first | exact trivial | (first | exact Ent.refl _ | exact inc_ent (by omega) | exact Ent.nil rfl | exact Ent.of_eq (congrArg (AV.osl _ _ _) (by first | omega | (dsimp only; omega))) | exact Ent.of_eq (congrArg (AV.int _) (by first | omega | (dsimp only; omega)))) | refine And.intro ?_ ?_)) (by repeat' (first | exact trivial | (first | exact ObEnt.refl _ | exact ObEnt.junk | exact ObEnt.zero | exact ObEnt.push rfl rfl | exact ObEnt.pushRow rfl | exact ObEnt.len (by omega) | exact ObEnt.row (by repeat' (first | exact trivial | (first | exact Ent.refl _ | exact inc_ent (by omega) | exact Ent.nil rfl | exact Ent.of_eq (congrArg (AV.osl _ _ _) (by first | omega | (dsimp only; omega))) | exact Ent.of_eq (congrArg (AV.int _) (by first | omega | (dsimp only; omega)))) | refine And.intro ?_ ?_))) | refine And.intro ?_ ?_))) (by first | omega | (dsimp only; omega) | (simp; omega))
    · have g11 := (cnd_and_f cnd_dec_f cnd_id_f) h11
      try simp only [Int.toNat_natCast] at g11
      refine k_req (fun hr => by have hr := (cnd_eqt_t cnd_dec_t) hr; first | omega | (simp only [Int.toNat_natCast] at *; omega)) ?_
      refine k_req (fun hr => by have hr := (cnd_eqt_t cnd_dec_t) hr; first | omega | (simp only [Int.toNat_natCast] at *; omega)) ?_
      refine k_scg (fun h15 => same_c ((rmC n k f g x5.1)[Int.toNat (↑x7.1 : Int) + 0]!) (catS n f g (Int.toNat (↑x5.1 : Int) + 0))) ?_
      refine k_br (fun h16 => ?_) (fun h16 => ?_)
      · have g16 := (cnd_and_t cnd_dec_t cnd_id_t) h16
        try simp only [Int.toNat_natCast] at g16
        refine k_req (by first | omega | (simp only [Int.toNat_natCast]; omega)) ?_
        refine k_req (by first | omega | (simp only [Int.toNat_natCast]; omega)) ?_
        refine k_req (by first | omega | (simp only [Int.toNat_natCast]; omega)) ?_
        refine k_req (by first | omega | (simp only [Int.toNat_natCast]; omega)) ?_
        refine k_req (by first | omega | (simp only [Int.toNat_natCast]; omega)) ?_
        refine k_req (by first | omega | (simp only [Int.toNat_natCast]; omega)) ?_
        refine k_req (by first | omega | (simp only [Int.toNat_natCast]; omega)) ?_
        refine k_req (by first | omega | (simp only [Int.toNat_natCast]; omega)) ?_
        refine k_req (by first | omega | (simp only [Int.toNat_natCast]; omega)) ?_
        refine k_req (by first | omega | (simp only [Int.toNat_natCast]; omega)) ?_
        refine k_req (by first | omega | (simp only [Int.toNat_natCast]; omega)) ?_
        refine k_req (by first | omega | (simp only [Int.toNat_natCast]; omega)) ?_
        exact k_again (⟨x5.1 + 1, by omega⟩) (fun _ hs => hs.le (⟨Ent.refl _, Ent.refl _, Ent.of_eq (congrArg (AV.osl _ _ _) (by have e : rmC n k f g (x5.1 + 1) = _ := ins_old (rmC n k f g x5.1) (catS n f g x5.1) x7.1 x7.2.2 (by omega) (g11.resolve_left (fun c => c g16.1)) g16.2; rw [e, List.length_set])), inc_ent (by omega), trivial⟩) (⟨ObEnt.refl _, ob_old (z := x7.1) (s := catS n f g x5.1) (ins_old (rmC n k f g x5.1) (catS n f g x5.1) x7.1 x7.2.2 (by omega) (g11.resolve_left (fun c => c g16.1)) g16.2) (fun r c hn _ => by simp only [Int.toNat_natCast, Nat.add_zero, beq_n hn, Bool.false_and, cond_false]) (lt7 (by simp only [Int.toNat_natCast, Nat.add_zero, Nat.beq_refl, Bool.true_and, Bool.and_false, cond_false]; rfl) (by simp only [Int.toNat_natCast, Nat.add_zero, Nat.beq_refl, Bool.true_and, Bool.and_false, cond_false]; rfl) (by simp only [Int.toNat_natCast, Nat.add_zero, Nat.beq_refl, Bool.true_and, Bool.and_false, cond_false]; rfl) (by simp only [Int.toNat_natCast, Nat.add_zero, Nat.beq_refl, Bool.true_and, Bool.and_false, cond_false]; rfl) (by simp only [Int.toNat_natCast, Nat.add_zero, Nat.beq_refl, Bool.true_and, Bool.and_false, cond_false]; rfl) (by simp only [Int.toNat_natCast, Nat.add_zero, Nat.beq_refl, Bool.true_and, Bool.and_false, cond_false]; rfl) (by simp only [Int.toNat_natCast, Nat.add_zero, Nat.beq_refl, Bool.true_and, Bool.and_false, cond_false]; rfl)), trivial⟩)) (by first | omega | (dsimp only; omega) | (simp; omega))
      · have g16 := (cnd_and_f cnd_dec_f cnd_id_f) h16
        try simp only [Int.toNat_natCast] at g16
        refine k_req (by first | omega | (simp only [Int.toNat_natCast]; omega)) ?_
        refine k_req (by first | omega | (simp only [Int.toNat_natCast]; omega)) ?_
        refine k_req (by first | omega | (simp only [Int.toNat_natCast]; omega)) ?_
        refine k_req (by first | omega | (simp only [Int.toNat_natCast]; omega)) ?_
        refine k_req (by first | omega | (simp only [Int.toNat_natCast]; omega)) ?_
        refine k_req (by first | omega | (simp only [Int.toNat_natCast]; omega)) ?_
        exact k_again (⟨x5.1 + 1, by omega⟩) (fun _ hs => hs.le (⟨Ent.refl _, Ent.refl _, Ent.of_eq (congrArg (AV.osl _ _ _) (by have e : rmC n k f g (x5.1 + 1) = _ := (ins_new (rmC n k f g x5.1) (catS n f g x5.1) x7.1 x7.2.2 (by omega) (fun h => ⟨g11.resolve_left (fun c => c (by omega)), g16.resolve_left (fun c => c (by omega))⟩)); rw [e]; simp; omega)), inc_ent (by omega), trivial⟩) (⟨ObEnt.refl _, ob_new (z := x7.1) (s := catS n f g x5.1) (O := rmC n k f g x5.1) (by omega) (ins_new (rmC n k f g x5.1) (catS n f g x5.1) x7.1 x7.2.2 (by omega) (fun h => ⟨g11.resolve_left (fun c => c (by omega)), g16.resolve_left (fun c => c (by omega))⟩)) (by omega) (fun r c hr _ => by simp only [Int.toNat_natCast, Nat.zero_add, Nat.add_zero, blt_t (show r < x7.1 + 1 by omega), blt_t hr, cond_true]) (lt7 (by simp only [Int.toNat_natCast, Nat.zero_add, Nat.add_zero, blt_t (Nat.lt_succ_self x7.1), blt_f (Nat.le_refl x7.1), cond_true, cond_false]; rfl) (by simp only [Int.toNat_natCast, Nat.zero_add, Nat.add_zero, blt_t (Nat.lt_succ_self x7.1), blt_f (Nat.le_refl x7.1), cond_true, cond_false]; rfl) (by simp only [Int.toNat_natCast, Nat.zero_add, Nat.add_zero, blt_t (Nat.lt_succ_self x7.1), blt_f (Nat.le_refl x7.1), cond_true, cond_false]; rfl) (by simp only [Int.toNat_natCast, Nat.zero_add, Nat.add_zero, blt_t (Nat.lt_succ_self x7.1), blt_f (Nat.le_refl x7.1), cond_true, cond_false]; rfl) (by simp only [Int.toNat_natCast, Nat.zero_add, Nat.add_zero, blt_t (Nat.lt_succ_self x7.1), blt_f (Nat.le_refl x7.1), cond_true, cond_false]; rfl) (by simp only [Int.toNat_natCast, Nat.zero_add, Nat.add_zero, blt_t (Nat.lt_succ_self x7.1), blt_f (Nat.le_refl x7.1), cond_true, cond_false]; rfl) (by simp only [Int.toNat_natCast, Nat.zero_add, Nat.add_zero, blt_t (Nat.lt_succ_self x7.1), blt_f (Nat.le_refl x7.1), cond_true, cond_false]; rfl)) (fun r c hr _ => by simp only [Int.toNat_natCast, Nat.zero_add, Nat.add_zero, blt_f (show x7.1 + 1 ≤ r by omega), cond_false]; rw [show r - (x7.1 + 1) + x7.1 = r - 1 by omega]), trivial⟩)) (by first | omega | (dsimp only; omega) | (simp; omega))
  · have g6 := cnd_dec_f h6
    refine k_br (fun h37 => ?_) (fun h37 => ?_)
    · have g37 := cnd_dec_t h37
      exact k_out (by have hx : x5.1 = n + k := (by omega); have hm : rmC n k f g x5.1 = mrgN (n + k) (catS n f g) := (by rw [hx]; exact rm_eq _ _); rw [mrg_v5 (by rw [← hm]; omega)]; exact Ent.tup ⟨Ent.nsl, Ent.refl _, trivial⟩)
    · have g37 := cnd_dec_f h37
      refine k_loop (fun _ hs => hs.le (by repeat' (first | exact trivial | (first | exact Ent.refl _ | exact inc_ent (by omega) | exact Ent.nil rfl | exact Ent.of_eq (congrArg (AV.osl _ _ _) (by first | omega | (dsimp only; omega))) | exact Ent.of_eq (congrArg (AV.int _) (by first | omega | (dsimp only; omega)))) | refine And.intro ?_ ?_)) (by repeat' (first | exact trivial | (first | exact ObEnt.refl _ | exact ObEnt.junk | exact ObEnt.zero | exact ObEnt.push rfl rfl | exact ObEnt.pushRow rfl | exact ObEnt.len (by omega) | exact ObEnt.row (by repeat' (first | exact trivial | (first | exact Ent.refl _ | exact inc_ent (by omega) | exact Ent.nil rfl | exact Ent.of_eq (congrArg (AV.osl _ _ _) (by first | omega | (dsimp only; omega))) | exact Ent.of_eq (congrArg (AV.int _) (by first | omega | (dsimp only; omega)))) | refine And.intro ?_ ?_))) | refine And.intro ?_ ?_))) (fun x39 => ?_)
      try (have q39 := x39.2; dsimp only at q39)
      have l39 := x39.2.1
      refine k_br (fun h40 => ?_) (fun h40 => ?_)
      · have g40 := cnd_dec_t h40
        refine k_req (by first | omega | (simp only [Int.toNat_natCast]; omega)) ?_
        refine k_sc (rvalid_c ((rmC n k f g x5.1)[Int.toNat (↑x39.1 : Int) + 0]!)) ?_
        refine k_br (fun h43 => ?_) (fun h43 => ?_)
        · have g43 := (cnd_not_t cnd_id_f) h43
          try simp only [Int.toNat_natCast] at g43
          exact k_out (by have hx : x5.1 = n + k := (by omega); have hm : rmC n k f g x5.1 = mrgN (n + k) (catS n f g) := (by rw [hx]; exact rm_eq _ _); rw [mrg_v9 (by rw [← hm]; omega) (by rw [← hm]; exact anyI_at (i := x39.1) (by omega) (show (!validS (rmC n k f g x5.1)[x39.1]!) = true from congrArg (!·) g43))]; exact Ent.tup ⟨Ent.nsl, Ent.refl _, trivial⟩)
        · have g43 := (cnd_not_f cnd_id_t) h43
          try simp only [Int.toNat_natCast] at g43
          exact k_again (⟨x39.1 + 1, by omega, snoc_all x39.2.2 g43⟩) (fun _ hs => hs.le (by repeat' (first | exact trivial | (first | exact Ent.refl _ | exact inc_ent (by omega) | exact Ent.nil rfl | exact Ent.of_eq (congrArg (AV.osl _ _ _) (by first | omega | (dsimp only; omega))) | exact Ent.of_eq (congrArg (AV.int _) (by first | omega | (dsimp only; omega)))) | refine And.intro ?_ ?_)) (by repeat' (first | exact trivial | (first | exact ObEnt.refl _ | exact ObEnt.junk | exact ObEnt.zero | exact ObEnt.push rfl rfl | exact ObEnt.pushRow rfl | exact ObEnt.len (by omega) | exact ObEnt.row (by repeat' (first | exact trivial | (first | exact Ent.refl _ | exact inc_ent (by omega) | exact Ent.nil rfl | exact Ent.of_eq (congrArg (AV.osl _ _ _) (by first | omega | (dsimp only; omega))) | exact Ent.of_eq (congrArg (AV.int _) (by first | omega | (dsimp only; omega)))) | refine And.intro ?_ ?_))) | refine And.intro ?_ ?_))) (by first | omega | (dsimp only; omega) | (simp; omega))
      · have g40 := cnd_dec_f h40
        exact k_out (by have hx : x5.1 = n + k := (by omega); have hm : rmC n k f g x5.1 = mrgN (n + k) (catS n f g) := (by rw [hx]; exact rm_eq _ _); rw [mrg_v0 (by rw [← hm]; omega) (by rw [← hm]; exact anyI_no (fun i hi => by rw [x39.2.2 i (by omega)]; rfl)), ← hm]; exact Ent.tup ⟨supJ_e, Ent.refl _, trivial⟩)
end Go.Proofs.Ytbmdmoknnlhdoaa

namespace Go.Sp
open Go Go.Am Go.Sort Go.Proofs

def Bd (B : Int) (s : Sup) : Prop := (0 ≤ s.issued ∧ s.issued ≤ B) ∧ (0 ≤ s.ret ∧ s.ret ≤ B) ∧ (0 ≤ s.dbl ∧ s.dbl ≤ B) ∧ 0 ≤ s.exp ∧ s.exp ≤ B
def leftI (s : Sup) : Int := s.issued - s.ret + s.dbl - s.exp
theorem wA_eq {a b : Int} (h1 : 0 ≤ a + b) (h2 : a + b ≤ 9223372036854775807) : wA a b = a + b := by
  unfold wA; simp only [IntKind.wrap, IntKind.bits, IntKind.signed]; simp; omega
theorem add_bd {B T : Int} {t s : Sup} (h1 : Bd B t) (h2 : Bd T s) (hB : B + T ≤ 9223372036854775807) : Bd (B + T) (addS t s) ∧ leftI (addS t s) = leftI t + leftI s := by
  obtain ⟨⟨a1, a2⟩, ⟨a3, a4⟩, ⟨a5, a6⟩, a7, a8⟩ := h1
  obtain ⟨⟨b1, b2⟩, ⟨b3, b4⟩, ⟨b5, b6⟩, b7, b8⟩ := h2
  have e1 := wA_eq (a := t.issued) (b := s.issued) (by omega) (by omega)
  have e2 := wA_eq (a := t.ret) (b := s.ret) (by omega) (by omega)
  have e3 := wA_eq (a := t.dbl) (b := s.dbl) (by omega) (by omega)
  have e4 := wA_eq (a := t.exp) (b := s.exp) (by omega) (by omega)
  unfold Bd leftI addS
  simp only [e1, e2, e3, e4]
  omega
theorem bd_mono {B C : Int} {s : Sup} (h : Bd B s) (hB : B ≤ C) : Bd C s := by unfold Bd at *; omega
theorem ins_bd {B T : Int} {s : Sup} (hs : Bd T s) (hn : 0 ≤ leftI s) (hT : 0 ≤ T) (hB0 : 0 ≤ B) (hB : B + T ≤ 9223372036854775807) : ∀ (O : List Sup), (∀ u ∈ O, Bd B u ∧ 0 ≤ leftI u) →
    (∀ u ∈ insM O s, Bd (B + T) u ∧ 0 ≤ leftI u) ∧ ((insM O s).map leftI).sum = (O.map leftI).sum + leftI s
  | [], _ => by
    refine ⟨fun u hu => ?_, ?_⟩
    · obtain rfl : u = s := by simpa [insM] using hu
      exact ⟨bd_mono hs (by omega), hn⟩
    · simp [insM]
  | t :: O, h => by
    obtain ⟨i1, i2⟩ := ins_bd hs hn hT hB0 hB O (fun u hu => h u (List.mem_cons_of_mem _ hu))
    obtain ⟨t1, t2⟩ := h t (List.mem_cons_self ..)
    rcases tri t s with k | k | k
    · rw [ins_lt k]
      refine ⟨fun u hu => ?_, ?_⟩
      · rcases List.mem_cons.1 hu with rfl | hu
        · exact ⟨bd_mono t1 (by omega), t2⟩
        · exact i1 u hu
      · simp only [List.map_cons, List.sum_cons, i2]; omega
    · rw [ins_eq k]
      obtain ⟨q1, q2⟩ := add_bd t1 hs hB
      refine ⟨fun u hu => ?_, ?_⟩
      · rcases List.mem_cons.1 hu with rfl | hu
        · exact ⟨q1, by omega⟩
        · have := h u (List.mem_cons_of_mem _ hu)
          exact ⟨bd_mono this.1 (by omega), this.2⟩
      · simp only [List.map_cons, List.sum_cons, q2]; omega
    · rw [ins_gt k]
      refine ⟨fun u hu => ?_, ?_⟩
      · rcases List.mem_cons.1 hu with rfl | hu
        · exact ⟨bd_mono hs (by omega), hn⟩
        · have := h u hu
          exact ⟨bd_mono this.1 (by omega), this.2⟩
      · simp only [List.map_cons, List.sum_cons]; omega
def T52 : Int := 4503599627370496
theorem fold_bd : ∀ (L O : List Sup) (b : Nat), (∀ s ∈ L, Bd T52 s ∧ 0 ≤ leftI s) → (∀ u ∈ O, Bd (b * T52) u ∧ 0 ≤ leftI u) → O.Pairwise Lt3 → b + L.length ≤ 2000 →
    (∀ u ∈ L.foldl insM O, 0 ≤ leftI u) ∧ (L.foldl insM O).Pairwise Lt3 ∧ ((L.foldl insM O).map leftI).sum = (O.map leftI).sum + (L.map leftI).sum
  | [], O, b, _, hO, hp, _ => ⟨fun u hu => (hO u hu).2, hp, by simp⟩
  | s :: L, O, b, hL, hO, hp, hb => by
    obtain ⟨s1, s2⟩ := hL s (List.mem_cons_self ..)
    have hb : b + (L.length + 1) ≤ 2000 := hb
    obtain ⟨i1, i2⟩ := ins_bd s1 s2 (by decide) (B := b * T52) (by unfold T52; omega) (by unfold T52; omega) O hO
    obtain ⟨j1, j2, j3⟩ := fold_bd L (insM O s) (b + 1) (fun u hu => hL u (List.mem_cons_of_mem _ hu)) (fun u hu => ⟨bd_mono (i1 u hu).1 (by unfold T52; omega), (i1 u hu).2⟩) (ins_sorted hp) (by omega)
    refine ⟨j1, j2, ?_⟩
    rw [List.foldl_cons, j3, i2, List.map_cons, List.sum_cons]; omega
theorem val_bd {s : Sup} (h : validS s = true) : Bd T52 s := by
  simp only [validS, amtB, Bool.and_eq_true, decide_eq_true_eq] at h
  unfold Bd T52; omega
theorem left_eq {s : Sup} (h : Bd T52 s) : leftS s = leftI s := by
  unfold Bd T52 at h
  unfold leftS leftI
  rw [wI (n := s.issued - s.ret) (by omega) (by omega), wI (n := s.issued - s.ret + s.dbl) (by omega) (by omega), wI (by omega) (by omega)]
theorem left_le {s : Sup} (h : Bd T52 s) : leftI s ≤ 2 * T52 := by unfold Bd T52 at *; unfold leftI; omega
def sumI (f : Nat → Sup) (n : Nat) : Int := ((List.range n).map fun i => leftI (f i)).sum
theorem sumI_s (f : Nat → Sup) (n : Nat) : sumI f (n + 1) = sumI f n + leftI (f n) := by unfold sumI; rw [List.range_succ, List.map_append, List.sum_append]; simp
theorem sumN_eq (f : Nat → Sup) : ∀ (n : Nat), n ≤ 1000 → (∀ i, i < n → Bd T52 (f i) ∧ 0 ≤ leftI (f i)) → sumN f n = sumI f n ∧ 0 ≤ sumI f n ∧ sumI f n ≤ n * (2 * T52)
  | 0, _, _ => ⟨rfl, Int.le_refl 0, by show (0 : Int) ≤ ((0 : Nat) : Int) * (2 * T52); simp⟩
  | n + 1, hn, h => by
    obtain ⟨e1, e2, e3⟩ := sumN_eq f n (by omega) (fun i hi => h i (by omega))
    obtain ⟨h1, h2⟩ := h n (Nat.lt_succ_self n)
    have h3 := left_le h1
    have e4 : sumI f (n + 1) = sumI f n + leftI (f n) := sumI_s f n
    unfold T52 at *
    refine ⟨?_, by omega, by omega⟩
    show IntKind.wrap .i64 (sumN f n + leftS (f n)) = _
    rw [left_eq h1, e1, e4, wI (by omega) (by omega)]
theorem range_get (O : List Sup) : (List.range O.length).map (fun i => O[i]!) = O := by
  refine List.ext_getElem (by simp) fun i h1 h2 => ?_
  simp [h2]
theorem sumI_list (O : List Sup) : sumI (fun i => O[i]!) O.length = (O.map leftI).sum := by
  unfold sumI
  have := congrArg (List.map leftI) (range_get O)
  rw [List.map_map] at this
  rw [← this]; rfl
def cat2 (n : Nat) (f g : Nat → Sup) (i : Nat) : Sup := if i < n then f i else g (i - n)
theorem cat_list (n k : Nat) (f g : Nat → Sup) : (List.range (n + k)).map (cat2 n f g) = (List.range n).map f ++ (List.range k).map g := by
  rw [List.range_add, List.map_append, List.map_map]
  congr 1
  · exact List.map_congr_left fun i hi => if_pos (List.mem_range.1 hi)
  · refine List.map_congr_left fun i _ => ?_
    show (if n + i < n then f (n + i) else g (n + i - n)) = g i
    rw [if_neg (by omega), Nat.add_sub_cancel_left]
theorem mrg_symm (n k : Nat) (f g : Nat → Sup) : mrgN (n + k) (cat2 n f g) = mrgN (k + n) (cat2 k g f) := by
  unfold mrgN
  rw [cat_list, cat_list]
  exact mrg_perm List.perm_append_comm
theorem mrgV_symm (a b : Bool) (n k : Nat) (f g : Nat → Sup) : mrgV (a && b) (n + k) (cat2 n f g) = mrgV (b && a) (k + n) (cat2 k g f) := by
  unfold mrgV; rw [mrg_symm, Bool.and_comm]
theorem left_of {n : Nat} {f : Nat → Sup} (h : smE n f = 0) : listB n f = true ∧ ∀ i, i < n → Bd T52 (f i) ∧ 0 ≤ leftI (f i) := by
  obtain ⟨h1, h2⟩ := sm_eq h
  refine ⟨h1, fun i hi => ?_⟩
  have hb := val_bd (list_val h1 hi)
  have := h2 i hi
  rw [left_eq hb] at this
  exact ⟨hb, by omega⟩
theorem mrgV_ok {b : Bool} {N : Nat} {h : Nat → Sup} (hv : (mrgV b N h).2 = 0) : b = true ∧ mrgV b N h = (mrgN N h, 0) ∧ ¬ 1000 < (mrgN N h).length ∧ badL (mrgN N h) = false := by
  cases b with
  | false => rw [mrg_v1] at hv; cases hv
  | true =>
    by_cases c1 : 1000 < (mrgN N h).length
    · rw [mrg_v5 c1] at hv; cases hv
    · cases c2 : badL (mrgN N h) with
      | true => rw [mrg_v9 c1 c2] at hv; cases hv
      | false => exact ⟨rfl, mrg_v0 c1 c2, c1, rfl⟩
theorem list_of {O : List Sup} (c1 : ¬ 1000 < O.length) (c2 : badL O = false) (k1 : ∀ u ∈ O, 0 ≤ leftI u) (k2 : O.Pairwise Lt3) :
    listB O.length (fun i => O[i]!) = true ∧ smE O.length (fun i => O[i]!) = 0 ∧ smV O.length (fun i => O[i]!) = (O.map leftI).sum ∧ 0 ≤ (O.map leftI).sum := by
  have hv : ∀ i, i < O.length → validS O[i]! = true := fun i hi => by have := anyI_f c2 i hi; simpa using this
  have hm : ∀ i, i < O.length → O[i]! ∈ O := fun i hi => by rw [getElem!_pos _ i hi]; exact List.getElem_mem hi
  have hb : ∀ i, i < O.length → Bd T52 O[i]! ∧ 0 ≤ leftI O[i]! := fun i hi => ⟨val_bd (hv i hi), k1 _ (hm i hi)⟩
  have hl : listB O.length (fun i => O[i]!) = true := list_ok (by omega) fun i hi => ⟨hv i hi, fun k hk => by
    have := List.pairwise_iff_getElem.1 k2 k i (by omega) hi hk
    show keyB O[i]! O[k]! = false
    rw [getElem!_pos _ i hi, getElem!_pos _ k (by omega)]
    cases e : keyB O[i] O[k] with
    | false => rfl
    | true => have := key_iff.1 e; unfold Lt3 Eq3 at *; omega⟩
  obtain ⟨e1, e2⟩ := sm_3 hl (fun i hi => by rw [left_eq (hb i hi).1]; have := (hb i hi).2; omega)
  obtain ⟨s1, s2, _⟩ := sumN_eq (fun i => O[i]!) O.length (by omega) hb
  refine ⟨hl, e2, ?_, ?_⟩
  · rw [e1, s1, sumI_list]
  · rw [← sumI_list]; exact s2
theorem adds_ok {n k : Nat} {f g : Nat → Sup} (h1 : smE n f = 0) (h2 : smE k g = 0) (hv : (mrgV true (n + k) (cat2 n f g)).2 = 0) :
    (mrgV true (n + k) (cat2 n f g)).1 = mrgN (n + k) (cat2 n f g) ∧ smE (mrgN (n + k) (cat2 n f g)).length (fun i => (mrgN (n + k) (cat2 n f g))[i]!) = 0 ∧
      smV (mrgN (n + k) (cat2 n f g)).length (fun i => (mrgN (n + k) (cat2 n f g))[i]!) = smV n f + smV k g ∧ 0 ≤ smV n f ∧ smV n f ≤ n * (2 * T52) ∧ 0 ≤ smV k g ∧ smV k g ≤ k * (2 * T52) := by
  obtain ⟨l1, b1⟩ := left_of h1
  obtain ⟨l2, b2⟩ := left_of h2
  have n1 := (list_spec l1).1
  have n2 := (list_spec l2).1
  have hO : mrgN (n + k) (cat2 n f g) = ((List.range n).map f ++ (List.range k).map g).foldl insM [] := by unfold mrgN mrgL; rw [cat_list]
  obtain ⟨k1, k2, k3⟩ := fold_bd ((List.range n).map f ++ (List.range k).map g) [] 0 (fun s hs => by
    rcases List.mem_append.1 hs with hs | hs
    · obtain ⟨i, hi, rfl⟩ := List.mem_map.1 hs; exact b1 i (List.mem_range.1 hi)
    · obtain ⟨i, hi, rfl⟩ := List.mem_map.1 hs; exact b2 i (List.mem_range.1 hi)) (fun u hu => by cases hu) List.Pairwise.nil (by simp; omega)
  rw [← hO] at k1 k2 k3
  have hs3 : ((mrgN (n + k) (cat2 n f g)).map leftI).sum = sumI f n + sumI g k := by
    rw [k3, List.map_append, List.sum_append, List.map_map, List.map_map]
    show 0 + (sumI f n + sumI g k) = _
    omega
  obtain ⟨_, hm, c1, c2⟩ := mrgV_ok hv
  rw [hm]
  generalize mrgN (n + k) (cat2 n f g) = O at *
  obtain ⟨q1, q2, q3, q4⟩ := list_of c1 c2 k1 k2
  obtain ⟨a1, a2, a3⟩ := sumN_eq f n n1 b1
  obtain ⟨d1, d2, d3⟩ := sumN_eq g k n2 b2
  have v1 := (sm_3 l1 (fun i hi => by rw [left_eq (b1 i hi).1]; have := (b1 i hi).2; omega)).1
  have v2 := (sm_3 l2 (fun i hi => by rw [left_eq (b2 i hi).1]; have := (b2 i hi).2; omega)).1
  refine ⟨rfl, q2, ?_, by omega, by omega, by omega, by omega⟩
  rw [q3, v1, v2, hs3, a1, d1]
theorem ins_dist {s : Sup} : ∀ (O : List Sup), (∀ u ∈ O, ¬ Eq3 u s) → (insM O s).length = O.length + 1 ∧ ∀ u ∈ insM O s, u ∈ O ∨ u = s
  | [], _ => ⟨rfl, fun u hu => .inr (by simpa [insM] using hu)⟩
  | t :: O, h => by
    obtain ⟨i1, i2⟩ := ins_dist O (fun u hu => h u (List.mem_cons_of_mem _ hu))
    have ht := h t (List.mem_cons_self ..)
    rcases tri t s with k | k | k
    · rw [ins_lt k]
      refine ⟨by simp [i1], fun u hu => ?_⟩
      rcases List.mem_cons.1 hu with rfl | hu
      · exact .inl (List.mem_cons_self ..)
      · exact (i2 u hu).imp_left (List.mem_cons_of_mem _)
    · exact absurd k ht
    · rw [ins_gt k]
      refine ⟨rfl, fun u hu => ?_⟩
      rcases List.mem_cons.1 hu with rfl | hu
      · exact .inr rfl
      · exact .inl hu
theorem fold_dist : ∀ (L O : List Sup), (∀ u ∈ O, ∀ s ∈ L, ¬ Eq3 u s) → L.Pairwise (fun a b => ¬ Eq3 a b) → (L.foldl insM O).length = O.length + L.length ∧ ∀ u ∈ L.foldl insM O, u ∈ O ∨ u ∈ L
  | [], O, _, _ => ⟨rfl, fun u hu => .inl hu⟩
  | s :: L, O, h, hp => by
    obtain ⟨p1, p2⟩ := List.pairwise_cons.1 hp
    obtain ⟨i1, i2⟩ := ins_dist O (fun u hu => h u hu s (List.mem_cons_self ..))
    obtain ⟨j1, j2⟩ := fold_dist L (insM O s) (fun u hu v hv => by
      rcases i2 u hu with e | rfl
      · exact h u e v (List.mem_cons_of_mem _ hv)
      · exact p1 v hv) p2
    refine ⟨by rw [List.foldl_cons, j1, i1, List.length_cons]; omega, fun u hu => ?_⟩
    rcases j2 u hu with e | e
    · rcases i2 u e with e | rfl
      · exact .inl e
      · exact .inr (List.mem_cons_self ..)
    · exact .inr (List.mem_cons_of_mem _ e)
theorem alone_ok {n : Nat} {f g : Nat → Sup} (h : listB n f = true) : (mrgV true (n + 0) (cat2 n f g)).2 = 0 ∧ (mrgN (n + 0) (cat2 n f g)).length = n := by
  obtain ⟨l1, l2⟩ := list_spec h
  have hO : mrgN (n + 0) (cat2 n f g) = ((List.range n).map f).foldl insM [] := by unfold mrgN mrgL; rw [cat_list]; simp
  obtain ⟨j1, j2⟩ := fold_dist ((List.range n).map f) [] (fun u hu => by cases hu) (pw_range.2 fun i j hij hj k => by
    have := (l2 j hj).2 i hij
    rw [key_iff.2 (by unfold Eq3 at *; omega)] at this; cases this)
  rw [← hO] at j1 j2
  have j1 : (mrgN (n + 0) (cat2 n f g)).length = n := by rw [j1]; simp
  refine ⟨?_, j1⟩
  rw [mrg_v0 (by omega) (anyI_no fun i hi => by
    have hm : (mrgN (n + 0) (cat2 n f g))[i]! ∈ mrgN (n + 0) (cat2 n f g) := by rw [getElem!_pos _ i hi]; exact List.getElem_mem hi
    rcases j2 _ hm with e | e
    · cases e
    · obtain ⟨x, hx, e⟩ := List.mem_map.1 e
      rw [← e, (l2 x (List.mem_range.1 hx)).1]; rfl)]
theorem sm_nil (g : Nat → Sup) : smE 0 g = 0 ∧ smV 0 g = 0 := by
  have := sm_3 (n := 0) (f := g) (list_ok (by decide) (fun i hi => absurd hi (Nat.not_lt_zero i))) (fun i hi => absurd hi (Nat.not_lt_zero i))
  exact ⟨this.2, this.1⟩
end Go.Sp

namespace Go.Proofs.Ytbmdmoknnlhdoaa
open Go Go.Am Go.Sp
set_option maxRecDepth 100000

theorem rmerge_1 (n k : Nat) (f g : Nat → Sup) (hn : n ≤ 100000) (hk : k ≤ 100000) (h1 : listB n f = false) : Pure Try.prog gl0 13 [supA n f, supA k g] (.tup [supL [], .int .i64 1]) := by
  have c1 := rlist_c n f (by omega)
  have c2 := rlist_c k g (by omega)
  rw [h1] at c1
  refine pure_sk (own := ow0) Try.func13 (by kernel_rfl) mixed (by kernel_rfl)
    (.sc (true) 27 ([AV.isl (7) n fun (i j : Nat) => atL (Sup.cells (f i)) j]) (AV.bool false) (.sc (false) 27 ([AV.isl (7) k fun (i j : Nat) => atL (Sup.cells (g i)) j]) (AV.bool (listB k g)) (.tt (.out (AV.tup [AV.nsl, Zi 1]) [] (AV.tup [supL [], Zi 1]) []))))
    (by kernel_rfl) ?_
  refine k_sc (c1) ?_
  refine k_scg (fun h1 => c2) ?_
  refine k_tt ?_
  exact k_out (Ent.tup ⟨Ent.nsl, Ent.refl _, trivial⟩)
theorem rmerge_2 (n k : Nat) (f g : Nat → Sup) (hn : n ≤ 100000) (hk : k ≤ 100000) (h1 : listB n f = true) (h2 : listB k g = false) : Pure Try.prog gl0 13 [supA n f, supA k g] (.tup [supL [], .int .i64 1]) := by
  have c1 := rlist_c n f (by omega)
  have c2 := rlist_c k g (by omega)
  rw [h1] at c1; rw [h2] at c2
  refine pure_sk (own := ow0) Try.func13 (by kernel_rfl) mixed (by kernel_rfl)
    (.sc (true) 27 ([AV.isl (7) n fun (i j : Nat) => atL (Sup.cells (f i)) j]) (AV.bool true) (.sc (true) 27 ([AV.isl (7) k fun (i j : Nat) => atL (Sup.cells (g i)) j]) (AV.bool false) (.tt (.out (AV.tup [AV.nsl, Zi 1]) [] (AV.tup [supL [], Zi 1]) []))))
    (by kernel_rfl) ?_
  refine k_sc (c1) ?_
  refine k_sc (c2) ?_
  refine k_tt ?_
  exact k_out (Ent.tup ⟨Ent.nsl, Ent.refl _, trivial⟩)
theorem rmerge_c (n k : Nat) (f g : Nat → Sup) (hn : n ≤ 100000) (hk : k ≤ 100000) : Pure Try.prog gl0 13 [supA n f, supA k g] (.tup [supL (mrgV (listB n f && listB k g) (n + k) (catS n f g)).1, .int .i64 (mrgV (listB n f && listB k g) (n + k) (catS n f g)).2]) := by
  cases h1 : listB n f with
  | false => rw [Bool.false_and, mrg_v1]; exact rmerge_1 n k f g hn hk h1
  | true =>
    cases h2 : listB k g with
    | false => rw [Bool.and_false, mrg_v1]; exact rmerge_2 n k f g hn hk h1 h2
    | true => exact (rmerge_w n k f g hn hk h1 h2).via ⟨supJ_f, supJ_f, trivial⟩
theorem many_c (n : Nat) (f : Nat → Sup) (hn : n < 9223372036854775808) : Pure Try.prog gl0 9 [supA n f] (.bool (decide ((n : Int) > 60) && decide ((n : Int) ≤ 1000) || decide ((n : Int) > 1100))) := by
  refine pure_sk (own := ow0) Try.func9 (by kernel_rfl) mixed (by kernel_rfl)
    (.out (AV.bool (decide ((↑n : Int) > (60 : Int)) && decide ((↑n : Int) ≤ (1000 : Int)) || decide ((↑n : Int) > (1100 : Int)))) [] (AV.bool (decide ((↑n : Int) > (60 : Int)) && decide ((↑n : Int) ≤ (1000 : Int)) || decide ((↑n : Int) > (1100 : Int)))) [])
    (by kernel_rfl) ?_
  exact k_out (Ent.of_eq (by first | rfl | simp_all))
theorem mrgV_len (b : Bool) (N : Nat) (h : Nat → Sup) : (mrgV b N h).1.length ≤ N := by
  unfold mrgV
  split
  · exact Nat.zero_le _
  · split
    · exact Nat.zero_le _
    · split
      · exact Nat.zero_le _
      · show (mrgN N h).length ≤ N
        rw [← rm_eq]; exact rm_len h N
theorem same_self (O : List Sup) (h : O.length < 9223372036854775807) : Pure Try.prog gl0 7 [supL O, supL O] (.bool true) := by
  have := rsame_c O.length O.length (fun i => O[i]!) (fun i => O[i]!) h
  rwa [same_yes rfl (fun i _ => by simp [eqS])] at this
def litS (l : List Sup) : AV := .isl 7 l.length fun r k => atL (List.getD (l.map Sup.cells) r []) k
theorem lit_f {os : List (Option Ob)} (l : List Sup) : Ent os (litS l) (supA l.length fun i => l[i]!) := Ent.isl fun i j hi _ => by
  show atL (List.getD (l.map Sup.cells) i []) j = atL (l[i]!).cells j
  rw [List.getD_eq_getElem?_getD, List.getElem?_map, List.getElem?_eq_getElem hi, getElem!_pos l i hi]; rfl
theorem lit_b {os : List (Option Ob)} (l : List Sup) : Ent os (supL l) (litS l) := Ent.isl fun i j hi _ => by
  show atL (l[i]!).cells j = atL (List.getD (l.map Sup.cells) i []) j
  rw [List.getD_eq_getElem?_getD, List.getElem?_map, List.getElem?_eq_getElem hi, getElem!_pos l i hi]; rfl
def aw1 : List Sup := [⟨0, 0, 1, 5, 0, 0, 0⟩]
def aw2 : List Sup := [⟨0, 0, 1, 3, 2, 0, 0⟩, ⟨0, 0, 0, 7, 0, 0, 0⟩]
def aw3 : List Sup := [⟨0, 0, 0, 7, 0, 0, 0⟩, ⟨0, 0, 1, 8, 2, 0, 0⟩]
theorem aw_v : mrgV (listB 1 (fun i => aw1[i]!) && listB 2 (fun i => aw2[i]!)) (1 + 2) (catS 1 (fun i => aw1[i]!) (fun i => aw2[i]!)) = (aw3, 0) := by kernel_rfl
theorem aw_m : Pure Try.prog gl0 6 [litS aw1, litS aw2] (.tup [litS aw3, .int .i64 0]) := by
  have h := merge_c 1 2 (fun i => aw1[i]!) (fun i => aw2[i]!) (by decide) (by decide)
  rw [aw_v] at h
  exact (h.via (args := [litS aw1, litS aw2]) ⟨lit_f aw1, lit_f aw2, trivial⟩).ent (Ent.tup ⟨lit_b aw3, Ent.refl _, trivial⟩)
theorem aw_s : Pure Try.prog gl0 7 [litS aw3, litS aw3] (.bool true) := by
  have h := rsame_c 2 2 (fun i => aw3[i]!) (fun i => aw3[i]!) (by decide)
  rw [show sameL 2 2 (fun i => aw3[i]!) (fun i => aw3[i]!) = true by kernel_rfl] at h
  exact h.via (args := [litS aw3, litS aw3]) ⟨lit_f aw3, lit_f aw3, trivial⟩
theorem aw_o : Pure Try.prog gl0 10 [.agg [.int .i64 0, .int .i64 0, .int .i64 0, .int .i64 8, .int .i64 4, .int .i64 0, .int .i64 0]] (.tup [.int .i64 4, .int .i64 0]) := outg_c ⟨0, 0, 0, 8, 4, 0, 0⟩
theorem awake_c : Pure Try.prog gl0 5 [] (.bool true) := by
  refine pure_sk (own := ow0) Try.func5 (by kernel_rfl) mixed (by kernel_rfl)
    (.sc (true) 10 ([AV.agg [Zi 0, Zi 0, Zi 0, Zi 8, Zi 4, Zi 0, Zi 0]]) (AV.tup [Zi 4, Zi 0]) (.dc (true) 6 ([AV.isl (7) (1) fun (r k : Nat) => atL (List.getD [[Zi 0, Zi 0, Zi 1, Zi 5, Zi 0, Zi 0, Zi 0]] (r + 0) []) k, AV.isl (7) (2) fun (r k : Nat) => atL (List.getD [[Zi 0, Zi 0, Zi 1, Zi 3, Zi 2, Zi 0, Zi 0], [Zi 0, Zi 0, Zi 0, Zi 7, Zi 0, Zi 0, Zi 0]] (r + 0) []) k]) (AV.tup [litS aw3, Zi 0]) (.sc (true) 7 ([AV.isl (7) (2) fun (r k : Nat) => atL (List.getD [[Zi 0, Zi 0, Zi 0, Zi 7, Zi 0, Zi 0, Zi 0], [Zi 0, Zi 0, Zi 1, Zi 8, Zi 2, Zi 0, Zi 0]] r []) k, AV.isl (7) (2) fun (r k : Nat) => atL (List.getD [[Zi 0, Zi 0, Zi 0, Zi 7, Zi 0, Zi 0, Zi 0], [Zi 0, Zi 0, Zi 1, Zi 8, Zi 2, Zi 0, Zi 0]] (r + 0) []) k]) (AV.bool true) (.out (AV.bool true) [] (AV.bool true) []))))
    (by kernel_rfl) ?_
  refine k_sc (aw_o) ?_
  refine k_dc (aw_m) ?_
  refine k_sc (aw_s) ?_
  exact k_out (Ent.of_eq (by first | rfl | simp_all))

theorem supplyLists_c (s : Sup) (n k m : Nat) (f g : Nat → Sup) (G : Nat → Gu) (hn : n < 9223372036854775808) (hk : k < 9223372036854775808) (hm : m < 9223372036854775808) : Pure Try.prog gl0 4 [.agg s.cells, supA n f, supA k g, gusA m G] (.bool true) := by
  have c1 := many_c n f (by omega)
  have c2 := many_c k g (by omega)
  have hl := mrgV_len (listB n f && listB k g) (n + k) (catS n f g)
  have c3 := same_self (mrgV (listB n f && listB k g) (n + k) (catS n f g)).1
  refine pure_sk (own := ow0) Try.func4 (by kernel_rfl) mixed (by kernel_rfl)
    (.sc (true) 5 ([]) (AV.bool true) (.ff (.sc (true) 9 ([AV.isl (7) n fun (i j : Nat) => atL (Sup.cells (f i)) j]) (AV.bool (decide ((↑n : Int) > (60 : Int)) && decide ((↑n : Int) ≤ (1000 : Int)) || decide ((↑n : Int) > (1100 : Int)))) (.sc ((decide ((↑n : Int) > (60 : Int)) && decide ((↑n : Int) ≤ (1000 : Int)) || decide ((↑n : Int) > (1100 : Int))) == false) 9 ([AV.isl (7) k fun (i j : Nat) => atL (Sup.cells (g i)) j]) (AV.bool (decide ((↑k : Int) > (60 : Int)) && decide ((↑k : Int) ≤ (1000 : Int)) || decide ((↑k : Int) > (1100 : Int)))) (.br (decide ((↑n : Int) > (60 : Int)) && decide ((↑n : Int) ≤ (1000 : Int)) || decide ((↑n : Int) > (1100 : Int)) || (decide ((↑k : Int) > (60 : Int)) && decide ((↑k : Int) ≤ (1000 : Int)) || decide ((↑k : Int) > (1100 : Int))) || decide ((↑m : Int) > (30 : Int))) (.out (AV.bool true) [] (AV.bool true) []) (.sc (true) 10 ([AV.agg (Sup.cells s)]) (AV.tup [Zi (outV s), Zi (outE s)]) (.sc (true) 11 ([AV.agg (Sup.cells s)]) (AV.bool (validS s)) (.br (!validS s) (.br (outE s != (1 : Int) || outV s != (0 : Int)) (.out (AV.bool false) [] (AV.bool true) []) (.dc (true) 6 ([AV.isl (7) n fun (i j : Nat) => atL (Sup.cells (f i)) j, AV.isl (7) k fun (i j : Nat) => atL (Sup.cells (g i)) j]) (AV.tup [supL (Prod.fst (mrgV (listB n f && listB k g) (n + k) (catS n f g))), Zi (Prod.snd (mrgV (listB n f && listB k g) (n + k) (catS n f g)))]) (.dc (true) 13 ([AV.isl (7) n fun (i j : Nat) => atL (Sup.cells (f i)) j, AV.isl (7) k fun (i j : Nat) => atL (Sup.cells (g i)) j]) (AV.tup [supL (Prod.fst (mrgV (listB n f && listB k g) (n + k) (catS n f g))), Zi (Prod.snd (mrgV (listB n f && listB k g) (n + k) (catS n f g)))]) (.sc (true) 8 ([AV.isl (7) n fun (i j : Nat) => atL (Sup.cells (f i)) j]) (AV.tup [Zi (smV n f), Zi (smE n f)]) (.sc (true) 14 ([AV.isl (7) n fun (i j : Nat) => atL (Sup.cells (f i)) j]) (AV.tup [Zi (smV n f), Zi (smE n f)]) (.sc (true) 15 ([AV.agg (Sup.cells s)]) (AV.bool (validS s)) (.sc (true) 11 ([AV.agg (Sup.cells s)]) (AV.bool (validS s)) (.sc ((validS s == validS s) == true) 7 ([AV.isl (7) (List.length (Prod.fst (mrgV (listB n f && listB k g) (n + k) (catS n f g)))) fun (i j : Nat) => atL (Sup.cells ((fun (i : Nat) => (Prod.fst (mrgV (listB n f && listB k g) (n + k) (catS n f g)))[i]!) i)) j, AV.isl (7) (List.length (Prod.fst (mrgV (listB n f && listB k g) (n + k) (catS n f g)))) fun (i j : Nat) => atL (Sup.cells ((fun (i : Nat) => (Prod.fst (mrgV (listB n f && listB k g) (n + k) (catS n f g)))[i]!) i)) j]) (AV.bool true) (.sc (((validS s == validS s || false) && (mrgV (listB n f && listB k g) (n + k) (catS n f g)).2 == (mrgV (listB n f && listB k g) (n + k) (catS n f g)).2 && smV n f == smV n f && smE n f == smE n f) == true) 16 ([AV.isl (7) n fun (i j : Nat) => atL (Sup.cells (f i)) j, AV.isl (161) m fun (i j : Nat) => atL (Gu.cells (G i)) j]) (AV.bool (checkB n f m G)) (.sc (((validS s == validS s || false) && (mrgV (listB n f && listB k g) (n + k) (catS n f g)).2 == (mrgV (listB n f && listB k g) (n + k) (catS n f g)).2 && smV n f == smV n f && smE n f == smE n f) == true) 17 ([AV.isl (7) n fun (i j : Nat) => atL (Sup.cells (f i)) j, AV.isl (161) m fun (i j : Nat) => atL (Gu.cells (G i)) j]) (AV.bool (checkB n f m G)) (.out (AV.bool ((validS s == validS s || false) && (mrgV (listB n f && listB k g) (n + k) (catS n f g)).2 == (mrgV (listB n f && listB k g) (n + k) (catS n f g)).2 && smV n f == smV n f && smE n f == smE n f && checkB n f m G == checkB n f m G)) [] (AV.bool true) []))))))))))) (.sc (true) 12 ([AV.agg (Sup.cells s)]) (Zi (leftS s)) (.br (decide (leftS s < (0 : Int))) (.br (outE s != (17 : Int) || outV s != (0 : Int)) (.out (AV.bool false) [] (AV.bool true) []) (.dc (true) 6 ([AV.isl (7) n fun (i j : Nat) => atL (Sup.cells (f i)) j, AV.isl (7) k fun (i j : Nat) => atL (Sup.cells (g i)) j]) (AV.tup [supL (Prod.fst (mrgV (listB n f && listB k g) (n + k) (catS n f g))), Zi (Prod.snd (mrgV (listB n f && listB k g) (n + k) (catS n f g)))]) (.dc (true) 13 ([AV.isl (7) n fun (i j : Nat) => atL (Sup.cells (f i)) j, AV.isl (7) k fun (i j : Nat) => atL (Sup.cells (g i)) j]) (AV.tup [supL (Prod.fst (mrgV (listB n f && listB k g) (n + k) (catS n f g))), Zi (Prod.snd (mrgV (listB n f && listB k g) (n + k) (catS n f g)))]) (.sc (true) 8 ([AV.isl (7) n fun (i j : Nat) => atL (Sup.cells (f i)) j]) (AV.tup [Zi (smV n f), Zi (smE n f)]) (.sc (true) 14 ([AV.isl (7) n fun (i j : Nat) => atL (Sup.cells (f i)) j]) (AV.tup [Zi (smV n f), Zi (smE n f)]) (.sc (true) 15 ([AV.agg (Sup.cells s)]) (AV.bool (validS s)) (.sc (true) 11 ([AV.agg (Sup.cells s)]) (AV.bool (validS s)) (.sc ((validS s == validS s) == true) 7 ([AV.isl (7) (List.length (Prod.fst (mrgV (listB n f && listB k g) (n + k) (catS n f g)))) fun (i j : Nat) => atL (Sup.cells ((fun (i : Nat) => (Prod.fst (mrgV (listB n f && listB k g) (n + k) (catS n f g)))[i]!) i)) j, AV.isl (7) (List.length (Prod.fst (mrgV (listB n f && listB k g) (n + k) (catS n f g)))) fun (i j : Nat) => atL (Sup.cells ((fun (i : Nat) => (Prod.fst (mrgV (listB n f && listB k g) (n + k) (catS n f g)))[i]!) i)) j]) (AV.bool true) (.sc (((validS s == validS s || false) && (mrgV (listB n f && listB k g) (n + k) (catS n f g)).2 == (mrgV (listB n f && listB k g) (n + k) (catS n f g)).2 && smV n f == smV n f && smE n f == smE n f) == true) 16 ([AV.isl (7) n fun (i j : Nat) => atL (Sup.cells (f i)) j, AV.isl (161) m fun (i j : Nat) => atL (Gu.cells (G i)) j]) (AV.bool (checkB n f m G)) (.sc (((validS s == validS s || false) && (mrgV (listB n f && listB k g) (n + k) (catS n f g)).2 == (mrgV (listB n f && listB k g) (n + k) (catS n f g)).2 && smV n f == smV n f && smE n f == smE n f) == true) 17 ([AV.isl (7) n fun (i j : Nat) => atL (Sup.cells (f i)) j, AV.isl (161) m fun (i j : Nat) => atL (Gu.cells (G i)) j]) (AV.bool (checkB n f m G)) (.out (AV.bool ((validS s == validS s || false) && (mrgV (listB n f && listB k g) (n + k) (catS n f g)).2 == (mrgV (listB n f && listB k g) (n + k) (catS n f g)).2 && smV n f == smV n f && smE n f == smE n f && checkB n f m G == checkB n f m G)) [] (AV.bool true) []))))))))))) (.sc ((outE s != (0 : Int)) == false) 12 ([AV.agg (Sup.cells s)]) (Zi (leftS s)) (.br (outE s != (0 : Int) || outV s != leftS s) (.out (AV.bool false) [] (AV.bool true) []) (.dc (true) 6 ([AV.isl (7) n fun (i j : Nat) => atL (Sup.cells (f i)) j, AV.isl (7) k fun (i j : Nat) => atL (Sup.cells (g i)) j]) (AV.tup [supL (Prod.fst (mrgV (listB n f && listB k g) (n + k) (catS n f g))), Zi (Prod.snd (mrgV (listB n f && listB k g) (n + k) (catS n f g)))]) (.dc (true) 13 ([AV.isl (7) n fun (i j : Nat) => atL (Sup.cells (f i)) j, AV.isl (7) k fun (i j : Nat) => atL (Sup.cells (g i)) j]) (AV.tup [supL (Prod.fst (mrgV (listB n f && listB k g) (n + k) (catS n f g))), Zi (Prod.snd (mrgV (listB n f && listB k g) (n + k) (catS n f g)))]) (.sc (true) 8 ([AV.isl (7) n fun (i j : Nat) => atL (Sup.cells (f i)) j]) (AV.tup [Zi (smV n f), Zi (smE n f)]) (.sc (true) 14 ([AV.isl (7) n fun (i j : Nat) => atL (Sup.cells (f i)) j]) (AV.tup [Zi (smV n f), Zi (smE n f)]) (.sc (true) 15 ([AV.agg (Sup.cells s)]) (AV.bool (validS s)) (.sc (true) 11 ([AV.agg (Sup.cells s)]) (AV.bool (validS s)) (.sc ((validS s == validS s) == true) 7 ([AV.isl (7) (List.length (Prod.fst (mrgV (listB n f && listB k g) (n + k) (catS n f g)))) fun (i j : Nat) => atL (Sup.cells ((fun (i : Nat) => (Prod.fst (mrgV (listB n f && listB k g) (n + k) (catS n f g)))[i]!) i)) j, AV.isl (7) (List.length (Prod.fst (mrgV (listB n f && listB k g) (n + k) (catS n f g)))) fun (i j : Nat) => atL (Sup.cells ((fun (i : Nat) => (Prod.fst (mrgV (listB n f && listB k g) (n + k) (catS n f g)))[i]!) i)) j]) (AV.bool true) (.sc (((validS s == validS s || false) && (mrgV (listB n f && listB k g) (n + k) (catS n f g)).2 == (mrgV (listB n f && listB k g) (n + k) (catS n f g)).2 && smV n f == smV n f && smE n f == smE n f) == true) 16 ([AV.isl (7) n fun (i j : Nat) => atL (Sup.cells (f i)) j, AV.isl (161) m fun (i j : Nat) => atL (Gu.cells (G i)) j]) (AV.bool (checkB n f m G)) (.sc (((validS s == validS s || false) && (mrgV (listB n f && listB k g) (n + k) (catS n f g)).2 == (mrgV (listB n f && listB k g) (n + k) (catS n f g)).2 && smV n f == smV n f && smE n f == smE n f) == true) 17 ([AV.isl (7) n fun (i j : Nat) => atL (Sup.cells (f i)) j, AV.isl (161) m fun (i j : Nat) => atL (Gu.cells (G i)) j]) (AV.bool (checkB n f m G)) (.out (AV.bool ((validS s == validS s || false) && (mrgV (listB n f && listB k g) (n + k) (catS n f g)).2 == (mrgV (listB n f && listB k g) (n + k) (catS n f g)).2 && smV n f == smV n f && smE n f == smE n f && checkB n f m G == checkB n f m G)) [] (AV.bool true) []))))))))))))))))))))))
    (by kernel_rfl) ?_
  refine k_sc (awake_c) ?_
  refine k_ff ?_
  refine k_sc (c1) ?_
  refine k_scg (fun h3 => c2) ?_
  refine k_br (fun h4 => ?_) (fun h4 => ?_)
  · have g4 := (cnd_or_t (cnd_or_t (cnd_or_t (cnd_and_t cnd_dec_t cnd_dec_t) cnd_dec_t) (cnd_or_t (cnd_and_t cnd_dec_t cnd_dec_t) cnd_dec_t)) cnd_dec_t) h4
    exact k_out (Ent.of_eq (by first | rfl | simp_all))
  · have g4 := (cnd_or_f (cnd_or_f (cnd_or_f (cnd_and_f cnd_dec_f cnd_dec_f) cnd_dec_f) (cnd_or_f (cnd_and_f cnd_dec_f cnd_dec_f) cnd_dec_f)) cnd_dec_f) h4
    refine k_sc (outg_c (s)) ?_
    refine k_sc (rvalid_c (s)) ?_
    refine k_br (fun h8 => ?_) (fun h8 => ?_)
    · have g8 := (cnd_not_t cnd_id_f) h8
      refine k_br (fun h9 => ?_) (fun h9 => ?_)
      · have g9 := (cnd_or_t cnd_bne_t cnd_bne_t) h9
        exact k_out ((g9.elim (fun h => absurd (outE_1 g8) h) (fun h => absurd (outV_1 g8) h)))
      · have g9 := (cnd_or_f cnd_bne_f cnd_bne_f) h9
        refine k_dc (merge_c (n) (k) (f) (g) (by first | assumption | omega) (by first | assumption | omega)) ?_
        refine k_dc (rmerge_c (n) (k) (f) (g) (by first | assumption | omega) (by first | assumption | omega)) ?_
        refine k_sc (sum_c (n) (f) (by first | assumption | omega)) ?_
        refine k_sc (rsum_c (n) (f) (by first | assumption | omega)) ?_
        refine k_sc (valid_c (s)) ?_
        refine k_sc (rvalid_c (s)) ?_
        refine k_scg (fun h17 => c3 (by first | assumption | omega)) ?_
        refine k_scg (fun h18 => check_c (n) (f) (m) (G) (by first | assumption | omega) (by first | assumption | omega)) ?_
        refine k_scg (fun h19 => rcheck_c (n) (f) (m) (G) (by first | assumption | omega) (by first | assumption | omega)) ?_
        exact k_out (Ent.of_eq (by first | rfl | simp_all))
    · have g8 := (cnd_not_f cnd_id_t) h8
      refine k_sc (left_c (s)) ?_
      refine k_br (fun h22 => ?_) (fun h22 => ?_)
      · have g22 := cnd_dec_t h22
        refine k_br (fun h23 => ?_) (fun h23 => ?_)
        · have g23 := (cnd_or_t cnd_bne_t cnd_bne_t) h23
          exact k_out ((g23.elim (fun h => absurd (outE_2 g8 g22) h) (fun h => absurd (outV_2 g8 g22) h)))
        · have g23 := (cnd_or_f cnd_bne_f cnd_bne_f) h23
          refine k_dc (merge_c (n) (k) (f) (g) (by first | assumption | omega) (by first | assumption | omega)) ?_
          refine k_dc (rmerge_c (n) (k) (f) (g) (by first | assumption | omega) (by first | assumption | omega)) ?_
          refine k_sc (sum_c (n) (f) (by first | assumption | omega)) ?_
          refine k_sc (rsum_c (n) (f) (by first | assumption | omega)) ?_
          refine k_sc (valid_c (s)) ?_
          refine k_sc (rvalid_c (s)) ?_
          refine k_scg (fun h31 => c3 (by first | assumption | omega)) ?_
          refine k_scg (fun h32 => check_c (n) (f) (m) (G) (by first | assumption | omega) (by first | assumption | omega)) ?_
          refine k_scg (fun h33 => rcheck_c (n) (f) (m) (G) (by first | assumption | omega) (by first | assumption | omega)) ?_
          exact k_out (Ent.of_eq (by first | rfl | simp_all))
      · have g22 := cnd_dec_f h22
        refine k_scg (fun h35 => left_c (s)) ?_
        refine k_br (fun h36 => ?_) (fun h36 => ?_)
        · have g36 := (cnd_or_t cnd_bne_t cnd_bne_t) h36
          exact k_out ((g36.elim (fun h => absurd (outE_3 g8 g22) h) (fun h => absurd (outV_3 g8 g22) h)))
        · have g36 := (cnd_or_f cnd_bne_f cnd_bne_f) h36
          refine k_dc (merge_c (n) (k) (f) (g) (by first | assumption | omega) (by first | assumption | omega)) ?_
          refine k_dc (rmerge_c (n) (k) (f) (g) (by first | assumption | omega) (by first | assumption | omega)) ?_
          refine k_sc (sum_c (n) (f) (by first | assumption | omega)) ?_
          refine k_sc (rsum_c (n) (f) (by first | assumption | omega)) ?_
          refine k_sc (valid_c (s)) ?_
          refine k_sc (rvalid_c (s)) ?_
          refine k_scg (fun h44 => c3 (by first | assumption | omega)) ?_
          refine k_scg (fun h45 => check_c (n) (f) (m) (G) (by first | assumption | omega) (by first | assumption | omega)) ?_
          refine k_scg (fun h46 => rcheck_c (n) (f) (m) (G) (by first | assumption | omega) (by first | assumption | omega)) ?_
          exact k_out (Ent.of_eq (by first | rfl | simp_all))

theorem adds_w (n k : Nat) (f g : Nat → Sup) (V W : List Sup × Int) (hn : n < 9223372036854775808) (hk : k < 9223372036854775808) (hV : V.1.length ≤ n + k) (hW : W.1.length ≤ n)
    (c1 : n ≤ 60 → k ≤ 60 → Pure Try.prog gl0 6 [supA n f, supA k g] (.tup [supL V.1, .int .i64 V.2])) (c2 : n ≤ 60 → k ≤ 60 → Pure Try.prog gl0 6 [supA k g, supA n f] (.tup [supL V.1, .int .i64 V.2]))
    (c3 : n ≤ 60 → k ≤ 60 → Pure Try.prog gl0 6 [supA n f, .nsl] (.tup [supL W.1, .int .i64 W.2]))
    (hF : V.2 = 0 → smE n f = 0 → smE k g = 0 → n ≤ 60 → k ≤ 60 → smE V.1.length (fun i => V.1[i]!) = 0 ∧ smV V.1.length (fun i => V.1[i]!) = IntKind.wrap .i64 (smV n f + smV k g) ∧ W.2 = 0 ∧ W.1.length = n ∧ smE W.1.length (fun i => W.1[i]!) = 0 ∧ smV W.1.length (fun i => W.1[i]!) = smV n f) :
    Pure Try.prog gl0 3 [supA n f, supA k g] (.bool true) := by
  have c4 := same_self V.1
  have c5 := sum_c V.1.length (fun i => V.1[i]!)
  have c6 := sum_c W.1.length (fun i => W.1[i]!)
  have c7 := sum_c n f
  have c8 := sum_c k g
  refine pure_sk (own := ow0) Try.func3 (by kernel_rfl) mixed (by kernel_rfl)
    (.sc (true) 5 ([]) (AV.bool true) (.ff (.br (decide ((↑n : Int) > (60 : Int)) || decide ((↑k : Int) > (60 : Int))) (.out (AV.bool true) [] (AV.bool true) []) (.dc (true) 6 ([AV.isl (7) n fun (i j : Nat) => atL (Sup.cells (f i)) j, AV.isl (7) k fun (i j : Nat) => atL (Sup.cells (g i)) j]) (AV.tup [supL (Prod.fst V), Zi (Prod.snd V)]) (.dc (true) 6 ([AV.isl (7) k fun (i j : Nat) => atL (Sup.cells (g i)) j, AV.isl (7) n fun (i j : Nat) => atL (Sup.cells (f i)) j]) (AV.tup [supL (Prod.fst V), Zi (Prod.snd V)]) (.sc ((V.2 != V.2) == false) 7 ([AV.isl (7) (List.length (Prod.fst V)) fun (i j : Nat) => atL (Sup.cells ((fun (i : Nat) => (Prod.fst V)[i]!) i)) j, AV.isl (7) (List.length (Prod.fst V)) fun (i j : Nat) => atL (Sup.cells ((fun (i : Nat) => (Prod.fst V)[i]!) i)) j]) (AV.bool true) (.br (V.2 != V.2 || false) (.out (AV.bool false) [] (AV.bool true) []) (.sc (true) 8 ([AV.isl (7) n fun (i j : Nat) => atL (Sup.cells (f i)) j]) (AV.tup [Zi (smV n f), Zi (smE n f)]) (.sc (true) 8 ([AV.isl (7) k fun (i j : Nat) => atL (Sup.cells (g i)) j]) (AV.tup [Zi (smV k g), Zi (smE k g)]) (.br (V.2 != (0 : Int) || smE n f != (0 : Int) || smE k g != (0 : Int)) (.out (AV.bool true) [] (AV.bool true) []) (.sc (true) 8 ([AV.isl (7) (List.length (Prod.fst V)) fun (i j : Nat) => atL (Sup.cells ((fun (i : Nat) => (Prod.fst V)[i]!) i)) j]) (AV.tup [Zi (smV (List.length (Prod.fst V)) fun (i : Nat) => (Prod.fst V)[i]!), Zi (smE (List.length (Prod.fst V)) fun (i : Nat) => (Prod.fst V)[i]!)]) (.dc (true) 6 ([AV.isl (7) n fun (i j : Nat) => atL (Sup.cells (f i)) j, AV.nsl]) (AV.tup [supL (Prod.fst W), Zi (Prod.snd W)]) (.sc (true) 8 ([AV.isl (7) (List.length (Prod.fst W)) fun (i j : Nat) => atL (Sup.cells ((fun (i : Nat) => (Prod.fst W)[i]!) i)) j]) (AV.tup [Zi (smV (List.length (Prod.fst W)) fun (i : Nat) => (Prod.fst W)[i]!), Zi (smE (List.length (Prod.fst W)) fun (i : Nat) => (Prod.fst W)[i]!)]) (.out (AV.bool ((smE (List.length (Prod.fst V)) fun (i : Nat) => V.1[i]!) == (0 : Int) && (smV (List.length (Prod.fst V)) fun (i : Nat) => V.1[i]!) == IntKind.wrap IntKind.i64 (smV n f + smV k g) && W.2 == (0 : Int) && (↑(List.length (Prod.fst W)) : Int) == (↑n : Int) && (smE (List.length (Prod.fst W)) fun (i : Nat) => W.1[i]!) == (0 : Int) && (smV (List.length (Prod.fst W)) fun (i : Nat) => W.1[i]!) == smV n f)) [] (AV.bool true) []))))))))))))))
    (by kernel_rfl) ?_
  refine k_sc (awake_c) ?_
  refine k_ff ?_
  refine k_br (fun h2 => ?_) (fun h2 => ?_)
  · have g2 := (cnd_or_t cnd_dec_t cnd_dec_t) h2
    exact k_out (Ent.of_eq (by first | rfl | simp_all))
  · have g2 := (cnd_or_f cnd_dec_f cnd_dec_f) h2
    refine k_dc (c1 (by first | assumption | omega) (by first | assumption | omega)) ?_
    refine k_dc (c2 (by first | assumption | omega) (by first | assumption | omega)) ?_
    refine k_scg (fun h6 => c4 (by first | assumption | omega)) ?_
    refine k_br (fun h7 => ?_) (fun h7 => ?_)
    · have g7 := (cnd_or_t cnd_bne_t cnd_id_t) h7
      exact k_out (Ent.of_eq (by first | rfl | simp_all))
    · have g7 := (cnd_or_f cnd_bne_f cnd_id_f) h7
      refine k_sc (c7 (by first | assumption | omega)) ?_
      refine k_sc (c8 (by first | assumption | omega)) ?_
      refine k_br (fun h11 => ?_) (fun h11 => ?_)
      · have g11 := (cnd_or_t (cnd_or_t cnd_bne_t cnd_bne_t) cnd_bne_t) h11
        exact k_out (Ent.of_eq (by first | rfl | simp_all))
      · have g11 := (cnd_or_f (cnd_or_f cnd_bne_f cnd_bne_f) cnd_bne_f) h11
        refine k_sc (c5 (by first | assumption | omega)) ?_
        refine k_dc (c3 (by first | assumption | omega) (by first | assumption | omega)) ?_
        refine k_sc (c6 (by first | assumption | omega)) ?_
        exact k_out (Ent.of_eq (by obtain ⟨a1, a2, a3, a4, a5, a6⟩ := hF g11.1.1 g11.1.2 g11.2 (by omega) (by omega); rw [a1, a2, a3, a5, a6, a4]; simp))
theorem supplyAdds_c (n k : Nat) (f g : Nat → Sup) (hn : n < 9223372036854775808) (hk : k < 9223372036854775808) : Pure Try.prog gl0 3 [supA n f, supA k g] (.bool true) := by
  refine adds_w n k f g (mrgV (listB n f && listB k g) (n + k) (cat2 n f g)) (mrgV (listB n f && listB 0 g) (n + 0) (cat2 n f g)) hn hk (mrgV_len _ _ _) (mrgV_len _ _ _) (fun h1 h2 => merge_c n k f g (by omega) (by omega)) (fun h1 h2 => ?_) (fun h1 h2 => ?_) (fun hv h1 h2 b1 b2 => ?_)
  · rw [mrgV_symm]; exact merge_c k n g f (by omega) (by omega)
  · exact (merge_c n 0 f g (by omega) (by omega)).via (args := [supA n f, .nsl]) ⟨Ent.refl _, Ent.nsl, trivial⟩
  · have l1 := (sm_eq h1).1
    have l2 := (sm_eq h2).1
    have l0 := (sm_eq (sm_nil g).1).1
    rw [l1, l2, Bool.true_and] at hv ⊢
    rw [l0, Bool.true_and]
    obtain ⟨e1, e2, e3, e4, e5, e6, e7⟩ := adds_ok h1 h2 hv
    obtain ⟨z1, z2⟩ := alone_ok (g := g) l1
    obtain ⟨d1, d2, d3, _⟩ := adds_ok h1 (sm_nil g).1 z1
    rw [e1, d1, e3]
    refine ⟨e2, ?_, z1, z2, d2, ?_⟩
    · rw [wI (by omega) (by unfold T52 at *; omega)]
    · rw [d3, (sm_nil g).2, Int.add_zero]
end Go.Proofs.Ytbmdmoknnlhdoaa

namespace Go.Sp
open Go Go.Am

def u8s (n : Nat) : List CT := List.replicate n (.int .u8)
def spendT : List CT := [.int .i64, .int .i64, .int .i64, .int .i64, .int .i64] ++ u8s 32 ++ [.int .i64, .int .i64, .int .i64, .int .i64, .int .i64, .int .i64] ++ u8s 32 ++ [.int .i64, .int .i64, .sl [.int .i64, .int .i64, .int .i64], .int .i64, .sl (u8s 32)]

def spendOf (g : Nat → AV) : Spend :=
  { bank := intOfAV (g 0), epoch := intOfAV (g 1), denom := intOfAV (g 2), depth := intOfAV (g 3), a := intOfAV (g 4), root := fun j => intOfAV (g (5 + j)),
    z := intOfAV (g 37), sa := intOfAV (g 38), sb := intOfAV (g 39), r := intOfAV (g 40), level := intOfAV (g 41), index := intOfAV (g 42), payee := fun j => intOfAV (g (43 + j)),
    time := intOfAV (g 75), number := intOfAV (g 76), nl := islN (g 77), lf := fun i j => intOfAV (islF (g 77) i j), pidx := intOfAV (g 78), np := islN (g 79), pf := fun i j => intOfAV (islF (g 79) i j) }


def i64s (n : Nat) : List CT := List.replicate n (.int .i64)
def guiltT : List CT := spendT ++ spendT ++ [.int .i64]
def supOf (g : Nat → AV) : Sup := ⟨intOfAV (g 0), intOfAV (g 1), intOfAV (g 2), intOfAV (g 3), intOfAV (g 4), intOfAV (g 5), intOfAV (g 6)⟩
def guOf (g : Nat → AV) : Gu := ⟨spendOf g, spendOf fun j => g (80 + j), intOfAV (g 160)⟩
theorem sups_e {os : List (Option Ob)} {a : AV} : Ent os (.isl 7 (islN a) fun i j => .int .i64 (intOfAV (islF a i j))) (supA (islN a) fun i => supOf (islF a i)) := Ent.isl fun i j _ hj => by
  have : j = 0 ∨ j = 1 ∨ j = 2 ∨ j = 3 ∨ j = 4 ∨ j = 5 ∨ j = 6 := by omega
  rcases this with rfl | rfl | rfl | rfl | rfl | rfl | rfl <;> rfl
theorem sl_len {cs : List CT} {a : AV} (h : CellOk (.sl cs) a) : islN a < 9223372036854775808 := Nat.lt_of_le_of_lt h.sl_inv.1 (by decide)
end Go.Sp
