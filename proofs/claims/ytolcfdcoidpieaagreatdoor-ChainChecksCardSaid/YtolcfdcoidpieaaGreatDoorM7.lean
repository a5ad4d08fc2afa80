/- Part of the proof: HV3, HV4, HE1, HE2, HE3, HE4, HE5, Exp2, HE8, Rec, HV5, HV6, Crt, HV7, HV8, Cval, HV9, HV10, HV11, Prd, HV12, HV13, Vfy, HV14. -/
import Derived.Test.YtolcfdcoidpieaaGreatDoorM6
import Derived.Test.YtolcfdcoidpieaaGreatDoorProg
import Derived.Test.YtolcfdcoidpieaaGreatDoorM5
import Derived.Test.YtolcfdcoidpieaaGreatDoorM3
import Derived.Test.YtolcfdcoidpieaaGreatDoorM4
namespace Go.Proofs.YtolcfdcoidpieaaGreatDoor
open Go Go.Am Go.Sp
set_option maxRecDepth 100000

def rA : Code → Code | .rangeFunc _ _ a _ => a | c => c
def rB : Code → Code | .rangeFunc _ _ _ b => b | c => c
noncomputable def lvX : Code := cI (cR (cI (cI (cL (cR (cR (Tryz.f244.body.getD .skip)))))))
noncomputable def lvF : Code := cI (cR (cL (cR lvX)))
theorem lv_shape : lvF = .rangeFunc (.tmp 12) #[13] (.region 5 (cO (rA lvF)) false) (rB lvF) := by kernel_rfl


theorem gl0_nm : NMG gl0 := by
  intro g m f hg
  unfold gl0 at hg
  cases e0 : Nat.beq g 0 with
  | true => rw [e0] at hg; simp only [cond_true, Option.some.injEq, Prod.mk.injEq] at hg; obtain ⟨rfl, rfl⟩ := hg; exact .ipt fun _ _ => .int
  | false =>
  cases e1 : Nat.beq g 1 with
  | true => rw [e0, e1] at hg; simp only [cond_true, cond_false, Option.some.injEq, Prod.mk.injEq] at hg; obtain ⟨rfl, rfl⟩ := hg; exact .ipt fun _ _ => .int
  | false =>
  cases e2 : Nat.beq g 2 with
  | true => rw [e0, e1, e2] at hg; simp only [cond_true, cond_false, Option.some.injEq, Prod.mk.injEq] at hg; obtain ⟨rfl, rfl⟩ := hg; exact .ipt fun _ _ => .int
  | false =>
  cases e3 : Nat.beq g 5 with
  | true => rw [e0, e1, e2, e3] at hg; simp only [cond_true, cond_false, Option.some.injEq, Prod.mk.injEq] at hg; obtain ⟨rfl, rfl⟩ := hg; exact .ipt fun _ _ => .int
  | false => rw [e0, e1, e2, e3] at hg; cases hg

theorem hsl_nm (n : Nat) (h : Nat → Nat → Int) : NM (hsl n h) := .isl fun _ _ _ _ => .int

theorem lv_round (N m : Nat) (C : Nat → Nat) (F : Nat → Nat → Nat → Int) (h : Nat → Nat → Int) (hb : ∀ i, i < 2 * N → byB (h i) 32) (pre : List (Fin N)) (x : Fin N) (hp : pre.length < N) (hN : N ≤ 1000) :
    Round Tryz.prog gl0 ow0 0 32 (rB lvF) (mkSt [5, 13, 3, 4, 12] [hsl 2 fun r => h (2 * x.1 + r), hsl 2 fun r => h (2 * x.1 + r), .osl 0 1 0 m, .own 1 1 0 0 1, .fn (.func 289) [] [.ipt 1 fun _ => hsl (2 * N) h, .ipt 1 fun _ => .int .i64 2]] [some ⟨1, m, true, .row fun i => [hsl (C i) (F i)]⟩, some ⟨1, 1, true, .lst [[.osl 2 32 0 pre.length]]⟩, some ⟨32, pre.length, true, .fn fun r j => .int .u8 (rowP h pre r j)⟩]) (mkSt [3, 4, 12] [.osl 0 1 0 m, .own 1 1 0 0 1, .fn (.func 289) [] [.ipt 1 fun _ => hsl (2 * N) h, .ipt 1 fun _ => .int .i64 2]] [some ⟨1, m, true, .row fun i => [hsl (C i) (F i)]⟩, some ⟨1, 1, true, .lst [[.osl 2 32 0 (pre ++ [x]).length]]⟩, some ⟨32, (pre ++ [x]).length, true, .fn fun r j => .int .u8 (rowP h (pre ++ [x]) r j)⟩]) := by
  refine round_sk (own := ow0)
    (.req ((0 : Int) ≤ 0 ∧ (0 : Int) < (↑(2) : Int)) (.req ((0 : Int) ≤ 1 ∧ (1 : Int) < (↑(2) : Int)) (.sc (true) 220 ([AV.agg (u8c (h (2 * x.1 + 0))), AV.agg (u8c (h (2 * x.1 + 1)))]) (AV.agg (u8c (nodeF (h (2 * (↑x : Nat) + 0)) (h (2 * (↑x : Nat) + 1))))) (.req ((List.length pre + 1) * 32 ≤ 140737488355328) (.again (fun (u : ASt) => Le 0 u (mkSt [3, 4, 12] [AV.osl 0 1 0 m, AV.own 1 1 0 0 1, AV.fn (Fn.func (289 : FuncId)) [] [AV.ipt 1 fun (x : Nat) => hsl (2 * N) h, AV.ipt 1 fun (x : Nat) => Zi 2]] [some ⟨1, m, true, Rep.row fun (i : Nat) => [hsl (C i) (F i)]⟩, some ⟨1, 1, true, Rep.lst [[AV.osl 2 32 0 (List.length (pre ++ [x]))]]⟩, some ⟨32, List.length (pre ++ [x]), true, Rep.fn fun (r j : Nat) => Zb (rowP h (pre ++ [x]) r j)⟩])) ([3, 4, 12]) ([0, 1, 75]) ([AV.osl 0 1 0 m, AV.own 1 1 0 0 1, AV.fn (Fn.func (289 : FuncId)) [] [AV.ipt 1 fun (x : Nat) => AV.isl 32 (2 * N) fun (i j : Nat) => Zb (h i j), AV.ipt 1 fun (x : Nat) => Zi 2]]) ([some ⟨1, m, true, Rep.row fun (i : Nat) => [AV.isl 32 (C i) fun (i_1 j : Nat) => Zb (F i i_1 j)]⟩, some ⟨1, 1, true, Rep.lst [[AV.osl 2 32 0 (List.length pre + 1)]]⟩, some ⟨32, List.length pre + 1, true, Rep.fn fun (i j : Nat) => Zb (bif Nat.blt i (List.length pre) then rowP h pre i j else intOfAV (atL (u8c (nodeF (h (2 * x.1 + 0)) (h (2 * x.1 + 1)))) j))⟩]))))))
    (by kernel_rfl) ?_
  refine k_req (by omega) ?_
  refine k_req (by omega) ?_
  refine k_sc ((inner_c (h ((2 : Nat) * (↑x : Nat) + (0 : Nat))) (h ((2 : Nat) * (↑x : Nat) + (1 : Nat)))) (hb _ (by have := x.2; omega)) (hb _ (by have := x.2; omega))) ?_
  refine k_req (by omega) ?_
  exact k_againR (fun _ hs => hs.le (⟨Ent.refl _, Ent.refl _, Ent.refl _, trivial⟩) (⟨⟨rfl, rfl, rfl, fun _ _ _ _ => Ent.refl _⟩, ObEnt.row ⟨Ent.of_eq (by rw [List.length_append]; rfl), trivial⟩, rowP_ob, trivial⟩))

theorem reverse_g (m : Nat) (h1 : 1 ≤ m) (hm : m ≤ 100) (C : Nat → Nat) (F : Nat → Nat → Nat → Int) : Gives Tryz.prog gl0 275 [⟨1, m, true, .row fun i => [hsl (C i) (F i)]⟩] [.osl 0 1 0 m] (.tup []) [some ⟨1, m, true, .row fun i => [hsl (C (m - 1 - i)) (F (m - 1 - i))]⟩] := by
  refine gives_sk (own := ow0) (hand := true) Tryz.func275 (by kernel_rfl) mixed (by kernel_rfl)
    (.loop ({ x : Nat // x ≤ m / 2 }) (fun (x : { x : Nat // x ≤ m / 2 }) => mkSt [0, 2, 3] [AV.osl 0 1 0 m, Zi (↑(x.1) : Int), Zi ((↑m : Int) - 1 - (↑(x.1) : Int))] [some ⟨1, m, true, Rep.row fun (i : Nat) => [hsl (C (revI m (x.1) i)) (F (revI m (x.1) i))]⟩]) (fun (x : { x : Nat // x ≤ m / 2 }) => m / 2 - x.1) (⟨0, Nat.zero_le (m / 2)⟩) ([0, 2, 3]) ([0]) ([AV.osl 0 1 0 m, Zi 0, Zi (IntKind.wrap IntKind.i64 ((↑m : Int) - 1))]) ([some ⟨1, m, true, Rep.row fun (i : Nat) => [AV.isl 32 (C i) fun (i_1 j : Nat) => Zb (F i i_1 j)]⟩]) (fun x0 => (.br (decide ((↑x0.1 : Int) < (↑m : Int) - 1 - (↑x0.1 : Int))) (.req ((0 : Int) ≤ (↑m : Int) - 1 - (↑x0.1 : Int) ∧ (↑m : Int) - 1 - (↑x0.1 : Int) < (↑m : Int)) (.req ((0 : Int) ≤ (↑x0.1 : Int) ∧ (↑x0.1 : Int) < (↑m : Int)) (.req ((0 : Int) ≤ (↑x0.1 : Int) ∧ (↑x0.1 : Int) < (↑m : Int)) (.req ((0 : Int) ≤ (↑m : Int) - 1 - (↑x0.1 : Int) ∧ (↑m : Int) - 1 - (↑x0.1 : Int) < (↑m : Int)) (.again (Again 1 (fun (x : { x : Nat // x ≤ m / 2 }) => mkSt [0, 2, 3] [AV.osl 0 1 0 m, Zi (↑(x.1) : Int), Zi ((↑m : Int) - 1 - (↑(x.1) : Int))] [some ⟨1, m, true, Rep.row fun (i : Nat) => [hsl (C (revI m (x.1) i)) (F (revI m (x.1) i))]⟩]) (fun (x : { x : Nat // x ≤ m / 2 }) => m / 2 - x.1) x0) ([0, 2, 3]) ([0]) ([AV.osl 0 1 0 m, Zi (IntKind.wrap IntKind.i64 ((↑x0.1 : Int) + 1)), Zi (IntKind.wrap IntKind.i64 ((↑m : Int) - 1 - (↑x0.1 : Int) - 1))]) ([some ⟨1, m, true, Rep.put (Int.toNat ((↑m : Int) - 1 - (↑x0.1 : Int)) + 0) [AV.isl 32 (C (revI m x0.1 (Int.toNat (↑x0.1 : Int) + 0))) fun (i j : Nat) => Zb (F (revI m x0.1 (Int.toNat (↑x0.1 : Int) + 0)) i j)] (Rep.put (Int.toNat (↑x0.1 : Int) + 0) [AV.isl 32 (C (revI m x0.1 (Int.toNat ((↑m : Int) - 1 - (↑x0.1 : Int)) + 0))) fun (i j : Nat) => Zb (F (revI m x0.1 (Int.toNat ((↑m : Int) - 1 - (↑x0.1 : Int)) + 0)) i j)] (Rep.row fun (i : Nat) => [AV.isl 32 (C (revI m x0.1 i)) fun (i_1 j : Nat) => Zb (F (revI m x0.1 i) i_1 j)]))⟩])))))) (.out (AV.tup []) ([some ⟨1, m, true, Rep.row fun (i : Nat) => [AV.isl 32 (C (revI m x0.1 i)) fun (i_1 j : Nat) => Zb (F (revI m x0.1 i) i_1 j)]⟩]) (AV.tup []) ([some ⟨1, m, true, Rep.row fun (i : Nat) => [hsl (C (m - 1 - i)) (F (m - 1 - i))]⟩])))))
    (by kernel_rfl) ?_
  refine k_loop (fun _ hs => hs.le (⟨Ent.refl _, by exact Ent.refl _, Ent.of_eq (congrArg (AV.int .i64) (by dsimp only; rw [wI (by omega) (by omega)]; omega)), trivial⟩) (by exact ⟨rev_eq C F (fun i => i) (revI m 0) (fun i hi => rev_0 hi), trivial⟩)) (fun x0 => ?_)
  try (have q0 := x0.2; dsimp only at q0)
  refine k_br (fun h1 => ?_) (fun h1 => ?_)
  · have g1 := cnd_dec_t h1
    refine k_req (by omega) ?_
    refine k_req (by omega) ?_
    refine k_req (by omega) ?_
    refine k_req (by omega) ?_
    exact k_again (⟨x0.1 + 1, by omega⟩) (fun _ hs => hs.le (⟨Ent.refl _, by exact inc_ent (by omega), Ent.of_eq (congrArg (AV.int .i64) (by dsimp only; rw [wI (by omega) (by omega)]; omega)), trivial⟩) (by exact ⟨rev_step C F (by omega) (by omega) (by omega), trivial⟩)) (by dsimp only; omega)
  · have g1 := cnd_dec_f h1
    exact k_outg (Ent.refl _) (⟨rev_eq C F (revI m x0.1) (fun i => m - 1 - i) (fun i hi => rev_all (by omega) x0.2 hi), trivial⟩)

theorem lv_opq (N m : Nat) (C : Nat → Nat) (F : Nat → Nat → Nat → Int) (h : Nat → Nat → Int) (hb : ∀ i, i < 2 * N → byB (h i) 32) (h1 : 1 ≤ N) (hN : N ≤ 1000) : Opq Tryz.prog gl0 0 32 lvF (mkSt [3, 4, 12] [.osl 0 1 0 m, .own 1 1 0 0 1, .fn (.func 289) [] [.ipt 1 fun _ => hsl (2 * N) h, .ipt 1 fun _ => .int .i64 2]] [some ⟨1, m, true, .row fun i => [hsl (C i) (F i)]⟩, some ⟨1, 1, true, .lst [[.osl 2 32 0 0]]⟩, some ⟨32, 0, true, .fn fun r j => .int .u8 (rowP (N := N) h [] r j)⟩]) (mkSt [3, 4, 12] [.osl 0 1 0 m, .own 1 1 0 0 1, .fn (.func 289) [] [.ipt 1 fun _ => hsl (2 * N) h, .ipt 1 fun _ => .int .i64 2]] [some ⟨1, m, true, .row fun i => [hsl (C i) (F i)]⟩, some ⟨1, 1, true, .lst [[.osl 2 32 0 N]]⟩, some ⟨32, N, true, .fn fun r j => .int .u8 (rowP h (List.finRange N) r j)⟩]) := by
  have hq := opq_range (P := Tryz.prog) (gl := gl0) (own := ow0) (ng := 0) (nt := 32) (g := .tmp 12) (p := 13) (d := 5) (assign := .region 5 (cO (rA lvF)) false) (body := rB lvF) (xs := fun k : Fin N => hsl 2 fun r => h (2 * k.1 + r)) (ns := [3, 4, 12]) (vs := [.osl 0 1 0 m, .own 1 1 0 0 1, .fn (.func 289) [] [.ipt 1 fun _ => hsl (2 * N) h, .ipt 1 fun _ => .int .i64 2]]) (obs := fun pre => [some ⟨1, m, true, .row fun i => [hsl (C i) (F i)]⟩, some ⟨1, 1, true, .lst [[.osl 2 32 0 pre.length]]⟩, some ⟨32, pre.length, true, .fn fun r j => .int .u8 (rowP h pre r j)⟩]) (obs1 := [some ⟨1, m, true, .row fun i => [hsl (C i) (F i)]⟩, some ⟨1, 1, true, .lst [[.osl 2 32 0 N]]⟩, some ⟨32, N, true, .fn fun r j => .int .u8 (rowP h (List.finRange N) r j)⟩])
    rfl (chunk_iter N h1 hN h) (fun x => .isl fun _ _ _ _ => .int) (fun l a W K hK => assign_in (by kernel_rfl) (by kernel_rfl) l a W K hK) (fun pre => rfl) (fun pre => .of ⟨.osl, .own, .fn (fun u h => by cases h) (NML.spec (l := [_, _]) ⟨.ipt fun _ _ => hsl_nm _ _, .ipt fun _ _ => .int, trivial⟩), trivial⟩ ⟨fun i j _ _ => NML.atL (l := [_]) ⟨hsl_nm _ _, trivial⟩ j, fun i j hi _ => (by obtain rfl : i = 0 := Nat.lt_one_iff.1 hi; exact NML.atL (l := [_]) ⟨.osl, trivial⟩ j), fun _ _ _ _ => .int, trivial⟩) gl0_nm (by kernel_rfl) (fun pre x hp => lv_round N m C F h hb pre x hp hN) (by rw [List.length_finRange])
  rw [← lv_shape] at hq
  exact hq

def ow7 : FuncId → Option (List Bool) := fun f => bif Nat.beq f 275 then some [true] else none

theorem levels_c (d : Nat) (hd : d ≤ 5) (h : Nat → Nat → Int) (hb : ∀ i, i < 2 ^ d → byB (h i) 32) : Pure Tryz.prog gl0 244 [hsl (2 ^ d) h] (.isl 1 (d + 1) fun i _ => hsl (2 ^ (d - (d - i))) (treF h (d - i))) := by
  refine pure_sk (own := ow7) Tryz.func244 (by kernel_rfl) mixed (by kernel_rfl)
    (.loop ({ x : Nat // x ≤ d }) (fun (x : { x : Nat // x ≤ d }) => mkSt [0, 3] [hsl (2 ^ (d - x.1)) (treF h (x.1)), AV.osl 0 1 0 (x.1 + 1)] [some ⟨1, x.1 + 1, true, Rep.row fun (i : Nat) => [hsl (2 ^ (d - i)) (treF h i)]⟩]) (fun (x : { x : Nat // x ≤ d }) => d - x.1) (⟨0, Nat.zero_le d⟩) ([0, 3]) ([16]) ([AV.isl 32 (2 ^ d) fun (i j : Nat) => Zb (h i j), AV.osl 0 1 0 1]) ([some ⟨1, 1, true, Rep.lst [[AV.isl 32 (2 ^ d) fun (i j : Nat) => Zb (h i j)]]⟩]) (fun x0 => (.br (decide ((↑(2 ^ (d - x0.1)) : Int) > 1)) (.dc (true) 274 ([AV.isl 32 (2 ^ (d - x0.1)) fun (i j : Nat) => Zb (treF h x0.1 i j), Zi 2]) (AV.fn (Fn.func (289 : FuncId)) [] [AV.ipt 1 fun (x : Nat) => hsl (2 ^ (d - x0.1)) (treF h x0.1), AV.ipt 1 fun (x : Nat) => Zi 2]) (.opq 32 (lvF) ([3, 4, 12]) ([0, 25, 8243]) ([AV.osl 0 1 0 (x0.1 + 1), AV.own 1 1 0 0 1, AV.fn (Fn.func (289 : FuncId)) [] [AV.ipt 1 fun (x : Nat) => AV.isl 32 (2 ^ (d - x0.1)) fun (i j : Nat) => Zb (treF h x0.1 i j), AV.ipt 1 fun (x : Nat) => Zi 2]]) ([some ⟨1, x0.1 + 1, true, Rep.row fun (i : Nat) => [AV.isl 32 (2 ^ (d - i)) fun (i_1 j : Nat) => Zb (treF h i i_1 j)]⟩, some ⟨1, 1, true, Rep.lst [[AV.nsl]]⟩, some ⟨32, 0, true, Rep.lst []⟩]) (mkSt [3, 4, 12] [AV.osl 0 1 0 (x0.1 + 1), AV.own 1 1 0 0 1, AV.fn (Fn.func (289 : FuncId)) [] [AV.ipt 1 fun (x : Nat) => hsl (2 * 2 ^ (d - x0.1 - 1)) (treF h (x0.1)), AV.ipt 1 fun (x : Nat) => Zi 2]] [some ⟨1, x0.1 + 1, true, Rep.row fun (i : Nat) => [hsl (2 ^ (d - i)) (treF h i)]⟩, some ⟨1, 1, true, Rep.lst [[AV.osl 2 32 0 (2 ^ (d - x0.1 - 1))]]⟩, some ⟨32, 2 ^ (d - x0.1 - 1), true, Rep.fn fun (r j : Nat) => Zb (rowP (treF h (x0.1)) (List.finRange (2 ^ (d - x0.1 - 1))) r j)⟩]) (.req ((x0.1 + 1 + 1) * 24 ≤ 140737488355328) (.again (Again 0 (fun (x : { x : Nat // x ≤ d }) => mkSt [0, 3] [hsl (2 ^ (d - x.1)) (treF h (x.1)), AV.osl 0 1 0 (x.1 + 1)] [some ⟨1, x.1 + 1, true, Rep.row fun (i : Nat) => [hsl (2 ^ (d - i)) (treF h i)]⟩]) (fun (x : { x : Nat // x ≤ d }) => d - x.1) x0) ([0, 3]) ([27]) ([AV.isl 32 (2 ^ (d - x0.1 - 1)) fun (r k : Nat) => Zb (rowP (treF h x0.1) (List.finRange (2 ^ (d - x0.1 - 1))) (r + 0) k), AV.osl 0 1 0 (x0.1 + 1 + 1)]) ([some ⟨1, x0.1 + 1 + 1, true, Rep.cat (x0.1 + 1) (Rep.row fun (i : Nat) => [AV.isl 32 (2 ^ (d - i)) fun (i_1 j : Nat) => Zb (treF h i i_1 j)]) (Rep.lst [[AV.isl 32 (2 ^ (d - x0.1 - 1)) fun (r k : Nat) => Zb (rowP (treF h x0.1) (List.finRange (2 ^ (d - x0.1 - 1))) (r + 0) k)]])⟩]))))) (.gc 275 ([⟨1, x0.1 + 1, true, Rep.row fun (i : Nat) => [AV.isl 32 (2 ^ (d - i)) fun (i_1 j : Nat) => Zb (treF h i i_1 j)]⟩]) ([AV.osl 0 1 0 (x0.1 + 1)]) (AV.tup []) ([some ⟨1, x0.1 + 1, true, Rep.row fun (i : Nat) => [hsl (2 ^ (d - (x0.1 + 1 - 1 - i))) (treF h (x0.1 + 1 - 1 - i))]⟩]) (.out (AV.isl 1 (x0.1 + 1) fun (r k : Nat) => atL [AV.isl 32 (2 ^ (d - (x0.1 + 1 - 1 - (r + 0)))) fun (i j : Nat) => Zb (treF h (x0.1 + 1 - 1 - (r + 0)) i j)] k) [] (AV.isl 1 (d + 1) fun (i x : Nat) => hsl (2 ^ (d - (d - i))) (treF h (d - i))) [])))))
    (by kernel_rfl) ?_
  refine k_loop (fun _ hs => hs.le (⟨.refl _, .refl _, trivial⟩) (⟨⟨rfl, rfl, rfl, fun i j hi hj => Ent.of_eq (by have : i = 0 := Nat.lt_one_iff.1 hi; subst this; rfl)⟩, trivial⟩)) (fun x0 => ?_)
  try (have q0 := x0.2; dsimp only at q0)
  have hp := pow5 (k := x0.1) hd
  refine k_br (fun h1 => ?_) (fun h1 => ?_)
  · have g1 := cnd_dec_t h1
    refine k_dc (chunk_c (2 ^ (d - x0.1)) (by omega) (treF h x0.1)) ?_
    refine k_opq (fun _ hs => hs.le (by exact ⟨Ent.refl _, Ent.refl _, Ent.of_eq (by rw [pow_dbl (pow_lt g1)]), trivial⟩) (by repeat' (first | exact trivial | (first | exact ObEnt.refl _ | exact ObEnt.junk | exact ObEnt.zero | exact ObEnt.push rfl rfl | exact ObEnt.pushRow rfl | exact ObEnt.len (by omega) | exact ObEnt.row (by repeat' (first | exact trivial | (first | exact Ent.refl _ | exact inc_ent (by omega) | exact Ent.nil rfl | exact Ent.of_eq (congrArg (AV.osl _ _ _) (by first | omega | (dsimp only; omega))) | exact Ent.of_eq (congrArg (AV.int _) (by first | omega | (dsimp only; omega)))) | refine And.intro ?_ ?_))) | refine And.intro ?_ ?_))) (lv_opq (2 ^ (d - x0.1 - 1)) (x0.1 + 1) (fun i => 2 ^ (d - i)) (treF h) (treF h x0.1) (fun i hi => tre_by hb _ _ (by rw [pow_dbl (pow_lt g1)] at hi; have e := Nat.mul_le_mul_right (2 ^ x0.1) (show i + 1 ≤ 2 ^ (d - x0.1) from hi); rw [Nat.add_mul, Nat.one_mul, ← Nat.pow_add, show d - x0.1 + x0.1 = d by omega] at e; exact e)) pow_pos2 (by have := pow5 (k := x0.1 + 1) hd; show 2 ^ (d - (x0.1 + 1)) ≤ 1000; omega)) ?_
    refine k_req (by omega) ?_
    exact k_again (⟨x0.1 + 1, pow_lt g1⟩) (fun _ hs => hs.le (⟨lvl_ent, Ent.refl _, trivial⟩) (⟨ObEnt.catRow rfl (fun _ _ => EntL.refl _) ⟨lvl_ent, trivial⟩, trivial⟩)) (by have := pow_lt g1; dsimp only; omega)
  · have g1 := cnd_dec_f h1
    refine k_gc (reverse_g (x0.1 + 1) (by omega) (by omega) (fun (i : Nat) => 2 ^ (d - i)) (treF h)) ?_
    exact k_out (Ent.islN (by rw [pow_eq x0.2 g1]) (fun i j hi hj => by have hj0 : j = 0 := Nat.lt_one_iff.1 hj; subst hj0; rw [pow_eq x0.2 g1]; rfl))

end Go.Proofs.YtolcfdcoidpieaaGreatDoor

namespace Go.Proofs.YtolcfdcoidpieaaGreatDoor
open Go Go.Am Go.Sp
set_option maxRecDepth 100000

abbrev kHV40 : List AV := [AV.agg [Zb 0, Zb 0, Zb 0, Zb 0, Zb 0, Zb 0, Zb 0, Zb 0, Zb 0, Zb 0, Zb 0, Zb 0, Zb 0, Zb 0, Zb 0, Zb 0, Zb 0, Zb 0, Zb 0, Zb 0, Zb 0, Zb 0, Zb 0, Zb 0, Zb 0, Zb 0, Zb 0, Zb 0, Zb 0, Zb 0, Zb 0, Zb 0], Zi 2]
abbrev kHV41 : List AV := [AV.agg [Zb 0, Zb 0, Zb 0, Zb 0, Zb 0, Zb 0, Zb 0, Zb 0, Zb 0, Zb 0, Zb 0, Zb 0, Zb 0, Zb 0, Zb 0, Zb 0, Zb 0, Zb 0, Zb 0, Zb 0, Zb 0, Zb 0, Zb 0, Zb 0, Zb 0, Zb 0, Zb 0, Zb 0, Zb 0, Zb 0, Zb 0, Zb 0], Zi 3]
theorem depth_c (d : Nat) (hd : d ≤ 5) : Pure Tryz.prog gl0 243 [.int .i64 (2 ^ d : Nat)] (.tup [.int .i64 d, .int .i64 0]) := by
  refine pure_sk (own := ow0) Tryz.func243 (by kernel_rfl) mixed (by kernel_rfl)
    (.loop ({ x : Nat // x ≤ d }) (fun (x : { x : Nat // x ≤ d }) => mkSt [0, 5] [Zi (↑(2 ^ d) : Int), Zi (↑(x.1) : Int)] []) (fun (x : { x : Nat // x ≤ d }) => d - x.1) (⟨0, Nat.zero_le d⟩) ([0, 5]) ([]) ([Zi (↑(2 ^ d) : Int), Zi 0]) ([]) (fun x0 => (.br (decide ((↑x0.1 : Int) < 11)) (.req ((0 : Int) ≤ (↑x0.1 : Int)) (.br ((↑(2 ^ d) : Int) == IntKind.wrap IntKind.i64 ((1 : Int) * 2 ^ min (Int.toNat (↑x0.1 : Int)) 64)) (.out (AV.tup [Zi (↑x0.1 : Int), Zi 0]) [] (AV.tup [Zi (↑d : Int), Zi 0]) []) (.again (Again 0 (fun (x : { x : Nat // x ≤ d }) => mkSt [0, 5] [Zi (↑(2 ^ d) : Int), Zi (↑(x.1) : Int)] []) (fun (x : { x : Nat // x ≤ d }) => d - x.1) x0) ([0, 5]) ([]) ([Zi (↑(2 ^ d) : Int), Zi (IntKind.wrap IntKind.i64 ((↑x0.1 : Int) + 1))]) ([])))) (.out (AV.tup [Zi 0, Zi 1]) [] (AV.tup [Zi (↑d : Int), Zi 0]) []))))
    (by kernel_rfl) ?_
  refine k_loop (fun _ hs => hs.le (⟨.refl _, .refl _, trivial⟩) (trivial)) (fun x0 => ?_)
  try (have q0 := x0.2; dsimp only at q0)
  refine k_br (fun h1 => ?_) (fun h1 => ?_)
  · have g1 := cnd_dec_t h1
    refine k_req (by omega) ?_
    refine k_br (fun h3 => ?_) (fun h3 => ?_)
    · have g3 := cnd_beq_t h3
      try simp only [Int.toNat_natCast] at g3
      exact k_out (by exact Ent.of_eq (congrArg (fun k : Nat => AV.tup [.int .i64 k, .int .i64 0]) (dep_t (d := d) (by omega) (by omega) g3).symm))
    · have g3 := cnd_beq_f h3
      try simp only [Int.toNat_natCast] at g3
      exact k_again (⟨x0.1 + 1, by have := dep_f (d := d) (by omega) g3; omega⟩) (fun _ hs => hs.le (⟨.refl _, inc_ent (by omega), trivial⟩) (trivial)) (by have := dep_f (d := d) (by omega) g3; dsimp only; omega)
  · have g1 := cnd_dec_f h1
    exact k_out (by (exfalso; omega))

theorem open0_c (d : Nat) (hd : d ≤ 5) (h : Nat → Nat → Int) (hb : ∀ i, i < 2 ^ d → byB (h i) 32) : Pure Tryz.prog gl0 196 [hsl (2 ^ d) h, .int .i64 0, .int .i64 0] (.tup [.isl 1 (d + 1) fun i _ => hsl (2 ^ (d - (d - i))) (treF h (d - i)), .int .i64 0]) := by
  refine pure_sk (own := ow0) Tryz.func196 (by kernel_rfl) mixed (by kernel_rfl)
    (let y0 : AV := (AV.tup [AV.isl 1 (d + 1) fun (i x : Nat) => hsl (2 ^ (d - (d - i))) (treF h (d - i)), Zi 0]); (.sc (true) 243 ([Zi (↑(2 ^ d) : Int)]) (AV.tup [Zi (↑d : Int), Zi 0]) (.ff (.req (((decide ((0 : Int) > (↑d : Int)) || false) == false) = true → (0 : Int) ≤ 0) (.br (decide ((0 : Int) > (↑d : Int)) || false || false) (.out (AV.tup [AV.nsl, Zi 2]) [] y0 []) (.dc (true) 244 ([AV.isl 32 (2 ^ d) fun (i j : Nat) => Zb (h i j)]) (AV.isl 1 (d + 1) fun (i x : Nat) => hsl (2 ^ (d - (d - i))) (treF h (d - i))) (.out (AV.tup [AV.isl 1 (d + 1) fun (i x : Nat) => AV.isl 32 (2 ^ (d - (d - i))) fun (i_1 j : Nat) => Zb (treF h (d - i) i_1 j), Zi 0]) [] y0 [])))))))
    (by kernel_rfl) ?_
  refine k_sc ((depth_c d) (by assumption)) ?_
  refine k_ff ?_
  refine k_req (fun _ => Int.le_refl _) ?_
  refine k_br (fun h3 => ?_) (fun h3 => ?_)
  · have g3 := (cnd_or_t (cnd_or_t cnd_dec_t cnd_id_t) cnd_id_t) h3
    exact k_out (by (exfalso; simp at g3; omega))
  · have g3 := (cnd_or_f (cnd_or_f cnd_dec_f cnd_id_f) cnd_id_f) h3
    refine k_dc (levels_c (d) (by assumption) (h) (by assumption)) ?_
    exact k_out (by exact Ent.refl _)

theorem tn0_c (d : Nat) (hd : d ≤ 5) (h : Nat → Nat → Int) (hb : ∀ i, i < 2 ^ d → byB (h i) 32) : Pure Tryz.prog gl0 151 [hsl (2 ^ d) h, .int .i64 0, .int .i64 0] (.tup [.agg (u8c (treF h d 0)), .int .i64 0]) := by
  refine pure_sk (own := ow0) Tryz.func151 (by kernel_rfl) mixed (by kernel_rfl)
    (.dc (true) 196 ([AV.isl 32 (2 ^ d) fun (i j : Nat) => Zb (h i j), Zi 0, Zi 0]) (AV.tup [AV.isl 1 (d + 1) fun (i x : Nat) => hsl (2 ^ (d - (d - i))) (treF h (d - i)), Zi 0]) (.ff (.req ((0 : Int) ≤ 0 ∧ (0 : Int) < (↑(d + 1) : Int)) (.req ((0 : Int) ≤ 0 ∧ (0 : Int) < (↑(2 ^ (d - (d - 0))) : Int)) (.out (AV.tup [AV.agg (u8c (treF h (d - 0) 0)), Zi 0]) [] (AV.tup [AV.agg (u8c (treF h d 0)), Zi 0]) [])))))
    (by kernel_rfl) ?_
  refine k_dc (open0_c (d) (by assumption) (h) (by assumption)) ?_
  refine k_ff ?_
  refine k_req (by omega) ?_
  refine k_req (by exact ⟨by omega, Int.ofNat_lt.2 pow_pos2⟩) ?_
  exact k_out (Ent.refl _)

theorem troot_c (d : Nat) (hd : d ≤ 5) (h : Nat → Nat → Int) (hb : ∀ i, i < 2 ^ d → byB (h i) 32) : Pure Tryz.prog gl0 77 [hsl (2 ^ d) h] (.tup [.agg (u8c (treF h d 0)), .int .i64 0]) := by
  refine pure_sk (own := ow0) Tryz.func77 (by kernel_rfl) mixed (by kernel_rfl)
    (let y0 : AV := (AV.tup [AV.agg (u8c (treF h d 0)), Zi 0]); (.sc (true) 151 ([AV.isl 32 (2 ^ d) fun (i j : Nat) => Zb (h i j), Zi 0, Zi 0]) y0 (.out y0 [] y0 [])))
    (by kernel_rfl) ?_
  refine k_sc (tn0_c (d) (by assumption) (h) (by assumption)) ?_
  exact k_out (Ent.of_eq rfl)

theorem tleaf_c (n : Nat) (f : Nat → Int) (hn : n ≤ 16384) (hf : byB f n) : Pure Tryz.prog gl0 150 [bys n f] (.tup [.agg (u8c (tagF "specie/leaf".toUTF8 n f)), .int .i64 0]) := by
  have ht := tagged_c "specie/leaf".toUTF8 (by decide) (by decide) f n (by omega) hf
  refine pure_sk (own := ow0) Tryz.func150 (by kernel_rfl) mixed (by kernel_rfl)
    (let y0 : AV := (AV.tup [AV.agg (u8c (tagF (String.toUTF8 "specie/leaf") n f)), Zi 0]); (.br (decide ((↑n : Int) > 16384)) (.out (AV.tup [AV.agg [Zb 0, Zb 0, Zb 0, Zb 0, Zb 0, Zb 0, Zb 0, Zb 0, Zb 0, Zb 0, Zb 0, Zb 0, Zb 0, Zb 0, Zb 0, Zb 0, Zb 0, Zb 0, Zb 0, Zb 0, Zb 0, Zb 0, Zb 0, Zb 0, Zb 0, Zb 0, Zb 0, Zb 0, Zb 0, Zb 0, Zb 0, Zb 0], Zi 5]) [] y0 []) (.sc (true) 144 ([AV.str { data := #[(115 : UInt8), (112 : UInt8), (101 : UInt8), (99 : UInt8), (105 : UInt8), (101 : UInt8), (47 : UInt8), (108 : UInt8), (101 : UInt8), (97 : UInt8), (102 : UInt8)] }, AV.isl 1 n fun (i x : Nat) => Zb (f i)]) y0 (.out y0 [] y0 []))))
    (by kernel_rfl) ?_
  refine k_br (fun h0 => ?_) (fun h0 => ?_)
  · have g0 := cnd_dec_t h0
    exact k_out (by (exfalso; omega))
  · have g0 := cnd_dec_f h0
    refine k_sc (ht) ?_
    exact k_out (by exact Ent.refl _)

theorem rtleaf_c (n : Nat) (f : Nat → Int) (hn : n ≤ 16384) (hf : byB f n) : Pure Tryz.prog gl0 162 [bys n f] (.agg (u8c (tagF "specie/leaf".toUTF8 n f))) := by
  have ht := rtagged_c "specie/leaf".toUTF8 (by decide) f n (by omega) hf
  refine pure_sk (own := ow0) Tryz.func162 (by kernel_rfl) mixed (by kernel_rfl)
    (let y0 : AV := (AV.agg (u8c (tagF (String.toUTF8 "specie/leaf") n f))); (.sc (true) 156 ([AV.str { data := #[(115 : UInt8), (112 : UInt8), (101 : UInt8), (99 : UInt8), (105 : UInt8), (101 : UInt8), (47 : UInt8), (108 : UInt8), (101 : UInt8), (97 : UInt8), (102 : UInt8)] }, AV.isl 1 n fun (i x : Nat) => Zb (f i)]) y0 (.out y0 [] y0 [])))
    (by kernel_rfl) ?_
  refine k_sc (ht) ?_
  exact k_out (by exact Ent.refl _)

theorem tn_base (d : Nat) (hd : d ≤ 5) (h : Nat → Nat → Int) (i : Nat) (hi : i < 2 ^ d) : Pure Tryz.prog gl0 84 [hsl (2 ^ d) h, .int .i64 d, .int .i64 i] (.agg (u8c (h i))) := by
  have w := shw (x := d) (by omega)
  refine pure_sk (own := ow0) Tryz.func84 (by kernel_rfl) mixed (by kernel_rfl)
    (.req ((0 : Int) ≤ (↑d : Int)) (.br (IntKind.wrap IntKind.i64 ((1 : Int) * 2 ^ min (Int.toNat (↑d : Int)) 64) == (↑(2 ^ d) : Int)) (.req ((0 : Int) ≤ (↑i : Int) ∧ (↑i : Int) < (↑(2 ^ d) : Int)) (.out (AV.agg (u8c (h (Int.toNat (↑i : Int))))) [] (AV.agg (u8c (h i))) [])) .no))
    (by kernel_rfl) ?_
  refine k_req (by omega) ?_
  refine k_br (fun h1 => ?_) (fun h1 => ?_)
  · have g1 := cnd_beq_t h1
    try simp only [Int.toNat_natCast] at g1
    refine k_req (by omega) ?_
    exact k_out (Ent.refl _)
  · have g1 := cnd_beq_f h1
    try simp only [Int.toNat_natCast] at g1
    exact (show False from (g1 w))

theorem tn_step (d : Nat) (hd : d ≤ 5) (h : Nat → Nat → Int) (L i : Nat) (hL : L < d) (hi : i < 2 ^ L) (u v : Nat → Int) (hu : byB u 32) (hv : byB v 32) (a1 : Pure Tryz.prog gl0 84 [hsl (2 ^ d) h, .int .i64 (L + 1 : Nat), .int .i64 (2 * i : Nat)] (.agg (u8c u)))
    (a2 : Pure Tryz.prog gl0 84 [hsl (2 ^ d) h, .int .i64 (L + 1 : Nat), .int .i64 (2 * i + 1 : Nat)] (.agg (u8c v))) : Pure Tryz.prog gl0 84 [hsl (2 ^ d) h, .int .i64 L, .int .i64 i] (.agg (u8c (nodeF u v))) := by
  have w := shw (x := L) (by omega)
  have hi5 : i < 32 := Nat.lt_of_lt_of_le hi (Nat.le_trans (Nat.pow_le_pow_right (by decide) (show L ≤ 5 by omega)) (by decide))
  have e1 : ((L + 1 : Nat) : Int) = IntKind.wrap .i64 ((L : Int) + 1) := by rw [wI (by omega) (by omega)]; rfl
  have e2 : ((2 * i : Nat) : Int) = IntKind.wrap .i64 (2 * (i : Int)) := by rw [wI (by omega) (by omega)]; rfl
  have e3 : ((2 * i + 1 : Nat) : Int) = IntKind.wrap .i64 (IntKind.wrap .i64 (2 * (i : Int)) + 1) := by rw [← e2, wI (by omega) (by omega)]; rfl
  rw [e1, e2] at a1
  rw [e1, e3] at a2
  have a3 := rinner_c u v hu hv
  refine pure_sk (own := ow0) Tryz.func84 (by kernel_rfl) mixed (by kernel_rfl)
    (let y0 : AV := (AV.agg (u8c (nodeF u v))); (.req ((0 : Int) ≤ (↑L : Int)) (.br (IntKind.wrap IntKind.i64 ((1 : Int) * 2 ^ min (Int.toNat (↑L : Int)) 64) == (↑(2 ^ d) : Int)) (.req ((0 : Int) ≤ (↑i : Int) ∧ (↑i : Int) < (↑(2 ^ d) : Int)) (.out (AV.agg (u8c (h (Int.toNat (↑i : Int))))) [] y0 [])) (.sc (true) 84 ([AV.isl 32 (2 ^ d) fun (i j : Nat) => Zb (h i j), Zi (IntKind.wrap IntKind.i64 ((↑L : Int) + 1)), Zi (IntKind.wrap IntKind.i64 ((2 : Int) * (↑i : Int)))]) (AV.agg (u8c u)) (.sc (true) 84 ([AV.isl 32 (2 ^ d) fun (i j : Nat) => Zb (h i j), Zi (IntKind.wrap IntKind.i64 ((↑L : Int) + 1)), Zi (IntKind.wrap IntKind.i64 (IntKind.wrap IntKind.i64 ((2 : Int) * (↑i : Int)) + 1))]) (AV.agg (u8c v)) (.sc (true) 161 ([AV.agg (u8c u), AV.agg (u8c v)]) y0 (.out y0 [] y0 [])))))))
    (by kernel_rfl) ?_
  refine k_req (by omega) ?_
  refine k_br (fun h1 => ?_) (fun h1 => ?_)
  · have g1 := cnd_beq_t h1
    try simp only [Int.toNat_natCast] at g1
    refine k_req (by omega) ?_
    exact k_out (by (exfalso; rw [w] at g1; exact absurd (pow_inj (by omega) (by omega) (Int.ofNat_inj.1 g1)) (by omega)))
  · have g1 := cnd_beq_f h1
    try simp only [Int.toNat_natCast] at g1
    refine k_sc (a1) ?_
    refine k_sc (a2) ?_
    refine k_sc (a3) ?_
    exact k_out (by exact Ent.refl _)

theorem tnode_c (d : Nat) (hd : d ≤ 5) (h : Nat → Nat → Int) (hb : ∀ i, i < 2 ^ d → byB (h i) 32) : ∀ k i : Nat, k ≤ d → i < 2 ^ (d - k) → Pure Tryz.prog gl0 84 [hsl (2 ^ d) h, .int .i64 (d - k : Nat), .int .i64 i] (.agg (u8c (treF h k i)))
  | 0, i, hk, hi => tn_base d hd h i hi
  | k + 1, i, hk, hi => by
    have hp : 2 * 2 ^ (d - (k + 1)) = 2 ^ (d - k) := pow_dbl (by omega)
    have e : d - (k + 1) + 1 = d - k := by omega
    have b1 := tnode_c d hd h hb k (2 * i) (by omega) (by omega)
    have b2 := tnode_c d hd h hb k (2 * i + 1) (by omega) (by omega)
    rw [← e] at b1 b2
    have hby : ∀ j, j < 2 ^ (d - k) → byB (treF h k j) 32 := fun j hj => tre_by hb k j (by
      have e := Nat.mul_le_mul_right (2 ^ k) (show j + 1 ≤ 2 ^ (d - k) from hj)
      rw [Nat.add_mul, Nat.one_mul, ← Nat.pow_add, show d - k + k = d by omega] at e
      exact e)
    exact tn_step d hd h (d - (k + 1)) i (by omega) hi _ _ (hby _ (by omega)) (hby _ (by omega)) b1 b2

theorem fol_ok (h : Nat → Int) (i : Int) (n : Nat) (P : Nat → Nat → Int) (hn : n ≤ 5) (hi : 0 ≤ i) (hi' : i < (2 ^ n : Nat)) (hh : byB h 32) (hP : ∀ k, k < n → byB (P k) 32) :
    Pure Tryz.prog gl0 152 [.agg (u8c h), .int .i64 n, .agg [.int .i64 i, hsl n P]] (.tup [.agg (u8c (folF h i P n)), .int .i64 0]) := by
  have w := shw (x := n) (by omega)
  have hi5 : i < 32 := Int.lt_of_lt_of_le hi' (Int.ofNat_le.2 (Nat.le_trans (Nat.pow_le_pow_right (by decide) hn) (by decide)))
  rw [← w] at hi'
  refine pure_sk (own := ow0) Tryz.func152 (by kernel_rfl) mixed (by kernel_rfl)
    (let y0 : List AV := [Zb 0, Zb 0, Zb 0, Zb 0, Zb 0, Zb 0, Zb 0, Zb 0, Zb 0, Zb 0, Zb 0, Zb 0, Zb 0, Zb 0, Zb 0, Zb 0, Zb 0, Zb 0, Zb 0, Zb 0, Zb 0, Zb 0, Zb 0, Zb 0, Zb 0, Zb 0, Zb 0, Zb 0, Zb 0, Zb 0, Zb 0, Zb 0]; (.req (((decide ((↑n : Int) < 0) || decide ((↑n : Int) > 10) || decide (i < 0)) == false) = true → (0 : Int) ≤ (↑n : Int)) (.br (decide ((↑n : Int) < 0) || decide ((↑n : Int) > 10) || decide (i < 0) || decide (i ≥ IntKind.wrap IntKind.i64 ((1 : Int) * 2 ^ min (Int.toNat (↑n : Int)) 64))) (.out (AV.tup kHV40) [] (AV.tup [AV.agg (u8c (folF h i P n)), Zi 0]) []) (.br ((↑n : Int) != (↑n : Int)) (.out (AV.tup kHV41) [] (AV.tup [AV.agg (u8c (folF h i P n)), Zi 0]) []) (.loop ({ x : Nat // x ≤ n }) (fun (x : { x : Nat // x ≤ n }) => mkSt [3, 6, 39, 40, 8, 41] [AV.own 0 32 0 0 32, AV.own 1 32 0 0 32, AV.isl 32 n fun (i j : Nat) => Zb (P i j), Zi (↑n : Int), Zi (i / 2 ^ x.1), Zi (↑(x.1) : Int)] [some ⟨32, 1, true, Rep.fn fun (x_1 j : Nat) => Zb (folF h i P (x.1) j)⟩, some ⟨32, 1, true, Rep.lst [y0]⟩]) (fun (x : { x : Nat // x ≤ n }) => n - x.1) (⟨0, Nat.zero_le n⟩) ([3, 6, 39, 40, 8, 41]) ([0, 16]) ([AV.own 0 32 0 0 32, AV.own 1 32 0 0 32, AV.isl 32 n fun (i j : Nat) => Zb (P i j), Zi (↑n : Int), Zi i, Zi 0]) ([some ⟨32, 1, true, Rep.lst [u8c h]⟩, some ⟨32, 1, true, Rep.lst [y0]⟩]) (fun x5 => (.br (decide ((↑x5.1 : Int) < (↑n : Int))) (.req ((0 : Int) ≤ (↑x5.1 : Int) ∧ (↑x5.1 : Int) < (↑n : Int)) (.br (Int.tmod (i / 2 ^ x5.1) (2 : Int) == 0) (.sc (true) 220 ([AV.agg (u8c (folF h i P x5.1)), AV.agg (u8c (P (Int.toNat (↑x5.1 : Int))))]) (AV.agg (u8c (nodeF (folF h i P x5.1) (P (Int.toNat (↑x5.1 : Int)))))) (.again (Again 0 (fun (x : { x : Nat // x ≤ n }) => mkSt [3, 6, 39, 40, 8, 41] [AV.own 0 32 0 0 32, AV.own 1 32 0 0 32, AV.isl 32 n fun (i j : Nat) => Zb (P i j), Zi (↑n : Int), Zi (i / 2 ^ x.1), Zi (↑(x.1) : Int)] [some ⟨32, 1, true, Rep.fn fun (x_1 j : Nat) => Zb (folF h i P (x.1) j)⟩, some ⟨32, 1, true, Rep.lst [y0]⟩]) (fun (x : { x : Nat // x ≤ n }) => n - x.1) x5) ([3, 6, 39, 40, 8, 41]) ([0, 1]) ([AV.own 0 32 0 0 32, AV.own 1 32 0 0 32, AV.isl 32 n fun (i j : Nat) => Zb (P i j), Zi (↑n : Int), Zi (IntKind.wrap IntKind.i64 (Int.tdiv (i / 2 ^ x5.1) (2 : Int))), Zi (IntKind.wrap IntKind.i64 ((↑x5.1 : Int) + 1))]) ([some ⟨32, 1, true, Rep.fn fun (i_1 j : Nat) => Zb (bif Nat.beq i_1 0 && (Nat.ble 0 j && Nat.blt j 32) then intOfAV (atL (u8c (nodeF (folF h i P x5.1) (P (Int.toNat (↑x5.1 : Int))))) (j - 0)) else folF h i P x5.1 j)⟩, some ⟨32, 1, true, Rep.lst [y0]⟩]))) (.sc (true) 220 ([AV.agg (u8c (P (Int.toNat (↑x5.1 : Int)))), AV.agg (u8c (folF h i P x5.1))]) (AV.agg (u8c (nodeF (P (Int.toNat (↑x5.1 : Int))) (folF h i P x5.1)))) (.again (Again 0 (fun (x : { x : Nat // x ≤ n }) => mkSt [3, 6, 39, 40, 8, 41] [AV.own 0 32 0 0 32, AV.own 1 32 0 0 32, AV.isl 32 n fun (i j : Nat) => Zb (P i j), Zi (↑n : Int), Zi (i / 2 ^ x.1), Zi (↑(x.1) : Int)] [some ⟨32, 1, true, Rep.fn fun (x_1 j : Nat) => Zb (folF h i P (x.1) j)⟩, some ⟨32, 1, true, Rep.lst [y0]⟩]) (fun (x : { x : Nat // x ≤ n }) => n - x.1) x5) ([3, 6, 39, 40, 8, 41]) ([0, 1]) ([AV.own 0 32 0 0 32, AV.own 1 32 0 0 32, AV.isl 32 n fun (i j : Nat) => Zb (P i j), Zi (↑n : Int), Zi (IntKind.wrap IntKind.i64 (Int.tdiv (i / 2 ^ x5.1) (2 : Int))), Zi (IntKind.wrap IntKind.i64 ((↑x5.1 : Int) + 1))]) ([some ⟨32, 1, true, Rep.fn fun (i_1 j : Nat) => Zb (bif Nat.beq i_1 0 && (Nat.ble 0 j && Nat.blt j 32) then intOfAV (atL (u8c (nodeF (P (Int.toNat (↑x5.1 : Int))) (folF h i P x5.1))) (j - 0)) else folF h i P x5.1 j)⟩, some ⟨32, 1, true, Rep.lst [y0]⟩]))))) (.out (AV.tup [AV.agg (u8c (folF h i P x5.1)), Zi 0]) [] (AV.tup [AV.agg (u8c (folF h i P n)), Zi 0]) []))))))))
    (by kernel_rfl) ?_
  refine k_req (fun hr => by have hr := (cnd_eqf_t (cnd_or_f (cnd_or_f cnd_dec_f cnd_dec_f) cnd_dec_f)) hr; omega) ?_
  refine k_br (fun h1 => ?_) (fun h1 => ?_)
  · have g1 := (cnd_or_t (cnd_or_t (cnd_or_t cnd_dec_t cnd_dec_t) cnd_dec_t) cnd_dec_t) h1
    try simp only [Int.toNat_natCast] at g1
    exact k_out (by (exfalso; omega))
  · have g1 := (cnd_or_f (cnd_or_f (cnd_or_f cnd_dec_f cnd_dec_f) cnd_dec_f) cnd_dec_f) h1
    try simp only [Int.toNat_natCast] at g1
    refine k_br (fun h3 => ?_) (fun h3 => ?_)
    · have g3 := cnd_bne_t h3
      exact k_out (by (exfalso; omega))
    · have g3 := cnd_bne_f h3
      refine k_loop (fun _ hs => hs.le (⟨.refl _, .refl _, .refl _, .refl _, Ent.of_eq (congrArg _ (by rw [show i / 2 ^ 0 = i by simp])), .refl _, trivial⟩) (⟨ObEnt.rowR rfl, ObEnt.refl _, trivial⟩)) (fun x5 => ?_)
      try (have q5 := x5.2; dsimp only at q5)
      refine k_br (fun h6 => ?_) (fun h6 => ?_)
      · have g6 := cnd_dec_t h6
        refine k_req (by omega) ?_
        refine k_br (fun h8 => ?_) (fun h8 => ?_)
        · have g8 := cnd_beq_t h8
          refine k_sc (inner_c (folF h i P x5.1) (P (Int.toNat (↑x5.1 : Int))) (by exact fol_by hh _) (by exact hP _ (by omega))) ?_
          exact k_again (⟨x5.1 + 1, by omega⟩) (fun _ hs => hs.le (⟨.refl _, .refl _, .refl _, .refl _, Ent.of_eq (congrArg _ (half_w hi (by omega))), inc_ent (by omega), trivial⟩) (⟨fol_ob (fol_t hi g8), ObEnt.refl _, trivial⟩)) (by dsimp only; omega)
        · have g8 := cnd_beq_f h8
          refine k_sc (inner_c (P (Int.toNat (↑x5.1 : Int))) (folF h i P x5.1) (by exact hP _ (by omega)) (by exact fol_by hh _)) ?_
          exact k_again (⟨x5.1 + 1, by omega⟩) (fun _ hs => hs.le (⟨.refl _, .refl _, .refl _, .refl _, Ent.of_eq (congrArg _ (half_w hi (by omega))), inc_ent (by omega), trivial⟩) (⟨fol_ob (fol_f hi g8), ObEnt.refl _, trivial⟩)) (by dsimp only; omega)
      · have g6 := cnd_dec_f h6
        exact k_out (by exact Ent.of_eq (congrArg (fun k : Nat => AV.tup [.agg (u8c (folF h i P k)), .int .i64 0]) (by omega)))

theorem fol_no (h : Nat → Int) (i : Int) (l n : Nat) (P : Nat → Nat → Int) (hl : l ≤ 5) (hne : n ≠ l) (hn : n ≤ 1000000) (hi : 0 ≤ i) (hi' : i < (2 ^ l : Nat)) :
    Pure Tryz.prog gl0 152 [.agg (u8c h), .int .i64 l, .agg [.int .i64 i, hsl n P]] (.tup [.agg (u8c fun _ => 0), .int .i64 3]) := by
  have w := shw (x := l) (by omega)
  rw [← w] at hi'
  refine pure_sk (own := ow0) Tryz.func152 (by kernel_rfl) mixed (by kernel_rfl)
    (let y0 : AV := (AV.tup [AV.agg (u8c fun (x : Nat) => (0 : Int)), Zi 3]); (.req (((decide ((↑l : Int) < 0) || decide ((↑l : Int) > 10) || decide (i < 0)) == false) = true → (0 : Int) ≤ (↑l : Int)) (.br (decide ((↑l : Int) < 0) || decide ((↑l : Int) > 10) || decide (i < 0) || decide (i ≥ IntKind.wrap IntKind.i64 ((1 : Int) * 2 ^ min (Int.toNat (↑l : Int)) 64))) (.out (AV.tup kHV40) [] y0 []) (.br ((↑n : Int) != (↑l : Int)) (.out (AV.tup kHV41) [] y0 []) .no))))
    (by kernel_rfl) ?_
  refine k_req (fun hr => by have hr := (cnd_eqf_t (cnd_or_f (cnd_or_f cnd_dec_f cnd_dec_f) cnd_dec_f)) hr; omega) ?_
  refine k_br (fun h1 => ?_) (fun h1 => ?_)
  · have g1 := (cnd_or_t (cnd_or_t (cnd_or_t cnd_dec_t cnd_dec_t) cnd_dec_t) cnd_dec_t) h1
    try simp only [Int.toNat_natCast] at g1
    exact k_out (by (exfalso; omega))
  · have g1 := (cnd_or_f (cnd_or_f (cnd_or_f cnd_dec_f cnd_dec_f) cnd_dec_f) cnd_dec_f) h1
    try simp only [Int.toNat_natCast] at g1
    refine k_br (fun h3 => ?_) (fun h3 => ?_)
    · have g3 := cnd_bne_t h3
      exact k_out (by exact Ent.refl _)
    · have g3 := cnd_bne_f h3
      exact (show False from (hne (by omega)))

theorem tver_ok (r h : Nat → Int) (i : Int) (n : Nat) (P : Nat → Nat → Int) (hn : n ≤ 5) (hi : 0 ≤ i) (hi' : i < (2 ^ n : Nat)) (hh : byB h 32) (hP : ∀ k, k < n → byB (P k) 32) :
    Pure Tryz.prog gl0 78 [.agg (u8c r), .agg (u8c h), .int .i64 n, .agg [.int .i64 i, hsl n P]] (.bool (hEq (folF h i P n) r)) := by
  have hf := fol_ok h i n P hn hi hi' hh hP
  refine pure_sk (own := ow0) Tryz.func78 (by kernel_rfl) mixed (by kernel_rfl)
    (.sc (true) 152 ([AV.agg (u8c h), Zi (↑n : Int), AV.agg [Zi i, AV.isl 32 n fun (i j : Nat) => Zb (P i j)]]) (AV.tup [AV.agg (u8c (folF h i P n)), Zi 0]) (.out (AV.bool (folF h i P n 0 == r 0 && (folF h i P n 1 == r 1 && (folF h i P n 2 == r 2 && (folF h i P n 3 == r 3 && (folF h i P n 4 == r 4 && (folF h i P n 5 == r 5 && (folF h i P n 6 == r 6 && (folF h i P n 7 == r 7 && (folF h i P n 8 == r 8 && (folF h i P n 9 == r 9 && (folF h i P n 10 == r 10 && (folF h i P n 11 == r 11 && (folF h i P n 12 == r 12 && (folF h i P n 13 == r 13 && (folF h i P n 14 == r 14 && (folF h i P n 15 == r 15 && (folF h i P n 16 == r 16 && (folF h i P n 17 == r 17 && (folF h i P n 18 == r 18 && (folF h i P n 19 == r 19 && (folF h i P n 20 == r 20 && (folF h i P n 21 == r 21 && (folF h i P n 22 == r 22 && (folF h i P n 23 == r 23 && (folF h i P n 24 == r 24 && (folF h i P n 25 == r 25 && (folF h i P n 26 == r 26 && (folF h i P n 27 == r 27 && (folF h i P n 28 == r 28 && (folF h i P n 29 == r 29 && (folF h i P n 30 == r 30 && (folF h i P n 31 == r 31 && true))))))))))))))))))))))))))))))))) [] (AV.bool (hEq (folF h i P n) r)) []))
    (by kernel_rfl) ?_
  refine k_sc (hf) ?_
  exact k_out (Ent.refl _)

theorem tver_no (r h : Nat → Int) (i : Int) (l n : Nat) (P : Nat → Nat → Int) (hl : l ≤ 5) (hne : n ≠ l) (hn : n ≤ 1000000) (hi : 0 ≤ i) (hi' : i < (2 ^ l : Nat)) :
    Pure Tryz.prog gl0 78 [.agg (u8c r), .agg (u8c h), .int .i64 l, .agg [.int .i64 i, hsl n P]] (.bool false) := by
  have hf := fol_no h i l n P hl hne hn hi hi'
  refine pure_sk (own := ow0) Tryz.func78 (by kernel_rfl) mixed (by kernel_rfl)
    (.sc (true) 152 ([AV.agg (u8c h), Zi (↑l : Int), AV.agg [Zi i, AV.isl 32 n fun (i j : Nat) => Zb (P i j)]]) (AV.tup [AV.agg (u8c fun (x : Nat) => (0 : Int)), Zi 3]) (.out (AV.bool false) [] (AV.bool false) []))
    (by kernel_rfl) ?_
  refine k_sc (hf) ?_
  exact k_out (Ent.refl _)

theorem rfol_c (h : Nat → Int) (i : Int) (n : Nat) (P : Nat → Nat → Int) (hn : n ≤ 1000000) (hi : 0 ≤ i) (hi' : i < 9223372036854775807) (hh : byB h 32) (hP : ∀ k, k < n → byB (P k) 32) :
    Pure Tryz.prog gl0 83 [.agg (u8c h), .agg [.int .i64 i, hsl n P]] (.agg (u8c (folF h i P n))) := by
  refine pure_sk (own := ow0) Tryz.func83 (by kernel_rfl) mixed (by kernel_rfl)
    (let y0 : List AV := [Zb 0, Zb 0, Zb 0, Zb 0, Zb 0, Zb 0, Zb 0, Zb 0, Zb 0, Zb 0, Zb 0, Zb 0, Zb 0, Zb 0, Zb 0, Zb 0, Zb 0, Zb 0, Zb 0, Zb 0, Zb 0, Zb 0, Zb 0, Zb 0, Zb 0, Zb 0, Zb 0, Zb 0, Zb 0, Zb 0, Zb 0, Zb 0]; (.loop ({ x : Nat // x ≤ n }) (fun (x : { x : Nat // x ≤ n }) => mkSt [2, 3, 4, 5, 6] [AV.own 0 32 0 0 32, AV.own 1 2 0 0 2, AV.own 2 32 0 0 32, Zi (i / 2 ^ x.1), Zi (↑(x.1) : Int)] [some ⟨32, 1, true, Rep.fn fun (x_1 j : Nat) => Zb (folF h i P (x.1) j)⟩, some ⟨2, 1, true, Rep.lst [[Zi i, AV.isl 32 n fun (i j : Nat) => Zb (P i j)]]⟩, some ⟨32, 1, true, Rep.lst [y0]⟩]) (fun (x : { x : Nat // x ≤ n }) => n - x.1) (⟨0, Nat.zero_le n⟩) ([2, 3, 4, 5, 6]) ([0, 8, 16]) ([AV.own 0 32 0 0 32, AV.own 1 2 0 0 2, AV.own 2 32 0 0 32, Zi i, Zi 0]) ([some ⟨32, 1, true, Rep.lst [u8c h]⟩, some ⟨2, 1, true, Rep.lst [[Zi i, AV.isl 32 n fun (i j : Nat) => Zb (P i j)]]⟩, some ⟨32, 1, true, Rep.lst [y0]⟩]) (fun x0 => (.br (decide ((↑x0.1 : Int) < (↑n : Int))) (.br (Int.tmod (i / 2 ^ x0.1) (2 : Int) == 0) (.req ((0 : Int) ≤ (↑x0.1 : Int) ∧ (↑x0.1 : Int) < (↑n : Int)) (.sc (true) 161 ([AV.agg (u8c (folF h i P x0.1)), AV.agg (u8c (P (Int.toNat (↑x0.1 : Int))))]) (AV.agg (u8c (nodeF (folF h i P x0.1) (P (Int.toNat (↑x0.1 : Int)))))) (.again (Again 0 (fun (x : { x : Nat // x ≤ n }) => mkSt [2, 3, 4, 5, 6] [AV.own 0 32 0 0 32, AV.own 1 2 0 0 2, AV.own 2 32 0 0 32, Zi (i / 2 ^ x.1), Zi (↑(x.1) : Int)] [some ⟨32, 1, true, Rep.fn fun (x_1 j : Nat) => Zb (folF h i P (x.1) j)⟩, some ⟨2, 1, true, Rep.lst [[Zi i, AV.isl 32 n fun (i j : Nat) => Zb (P i j)]]⟩, some ⟨32, 1, true, Rep.lst [y0]⟩]) (fun (x : { x : Nat // x ≤ n }) => n - x.1) x0) ([2, 3, 4, 5, 6]) ([0, 1, 2]) ([AV.own 0 32 0 0 32, AV.own 1 2 0 0 2, AV.own 2 32 0 0 32, Zi (IntKind.wrap IntKind.i64 (Int.tdiv (i / 2 ^ x0.1) (2 : Int))), Zi (IntKind.wrap IntKind.i64 ((↑x0.1 : Int) + 1))]) ([some ⟨32, 1, true, Rep.fn fun (i_1 j : Nat) => Zb (bif Nat.beq i_1 0 && (Nat.ble 0 j && Nat.blt j 32) then intOfAV (atL (u8c (nodeF (folF h i P x0.1) (P (Int.toNat (↑x0.1 : Int))))) (j - 0)) else folF h i P x0.1 j)⟩, some ⟨2, 1, true, Rep.lst [[Zi i, AV.isl 32 n fun (i j : Nat) => Zb (P i j)]]⟩, some ⟨32, 1, true, Rep.lst [y0]⟩])))) (.req ((0 : Int) ≤ (↑x0.1 : Int) ∧ (↑x0.1 : Int) < (↑n : Int)) (.sc (true) 161 ([AV.agg (u8c (P (Int.toNat (↑x0.1 : Int)))), AV.agg (u8c (folF h i P x0.1))]) (AV.agg (u8c (nodeF (P (Int.toNat (↑x0.1 : Int))) (folF h i P x0.1)))) (.again (Again 0 (fun (x : { x : Nat // x ≤ n }) => mkSt [2, 3, 4, 5, 6] [AV.own 0 32 0 0 32, AV.own 1 2 0 0 2, AV.own 2 32 0 0 32, Zi (i / 2 ^ x.1), Zi (↑(x.1) : Int)] [some ⟨32, 1, true, Rep.fn fun (x_1 j : Nat) => Zb (folF h i P (x.1) j)⟩, some ⟨2, 1, true, Rep.lst [[Zi i, AV.isl 32 n fun (i j : Nat) => Zb (P i j)]]⟩, some ⟨32, 1, true, Rep.lst [y0]⟩]) (fun (x : { x : Nat // x ≤ n }) => n - x.1) x0) ([2, 3, 4, 5, 6]) ([0, 1, 2]) ([AV.own 0 32 0 0 32, AV.own 1 2 0 0 2, AV.own 2 32 0 0 32, Zi (IntKind.wrap IntKind.i64 (Int.tdiv (i / 2 ^ x0.1) (2 : Int))), Zi (IntKind.wrap IntKind.i64 ((↑x0.1 : Int) + 1))]) ([some ⟨32, 1, true, Rep.fn fun (i_1 j : Nat) => Zb (bif Nat.beq i_1 0 && (Nat.ble 0 j && Nat.blt j 32) then intOfAV (atL (u8c (nodeF (P (Int.toNat (↑x0.1 : Int))) (folF h i P x0.1))) (j - 0)) else folF h i P x0.1 j)⟩, some ⟨2, 1, true, Rep.lst [[Zi i, AV.isl 32 n fun (i j : Nat) => Zb (P i j)]]⟩, some ⟨32, 1, true, Rep.lst [y0]⟩]))))) (.out (AV.agg (u8c (folF h i P x0.1))) [] (AV.agg (u8c (folF h i P n))) [])))))
    (by kernel_rfl) ?_
  refine k_loop (fun _ hs => hs.le (⟨Ent.refl _, Ent.refl _, Ent.refl _, by exact Ent.of_eq (congrArg _ (by rw [show i / 2 ^ 0 = i by simp])), by exact Ent.refl _, trivial⟩) (⟨ObEnt.rowR rfl, ObEnt.refl _, ObEnt.refl _, trivial⟩)) (fun x0 => ?_)
  try (have q0 := x0.2; dsimp only at q0)
  refine k_br (fun h1 => ?_) (fun h1 => ?_)
  · have g1 := cnd_dec_t h1
    refine k_br (fun h2 => ?_) (fun h2 => ?_)
    · have g2 := cnd_beq_t h2
      refine k_req (by omega) ?_
      refine k_sc (rinner_c (folF h i P x0.1) (P (Int.toNat (↑x0.1 : Int))) (by exact fol_by hh _) (by exact hP _ (by omega))) ?_
      exact k_again (⟨x0.1 + 1, by omega⟩) (fun _ hs => hs.le (⟨Ent.refl _, Ent.refl _, Ent.refl _, by exact Ent.of_eq (congrArg _ (half_w hi (by omega))), by exact inc_ent (by omega), trivial⟩) (⟨fol_ob (fol_t hi g2), ObEnt.refl _, ObEnt.refl _, trivial⟩)) (by dsimp only; omega)
    · have g2 := cnd_beq_f h2
      refine k_req (by omega) ?_
      refine k_sc (rinner_c (P (Int.toNat (↑x0.1 : Int))) (folF h i P x0.1) (by exact hP _ (by omega)) (by exact fol_by hh _)) ?_
      exact k_again (⟨x0.1 + 1, by omega⟩) (fun _ hs => hs.le (⟨Ent.refl _, Ent.refl _, Ent.refl _, by exact Ent.of_eq (congrArg _ (half_w hi (by omega))), by exact inc_ent (by omega), trivial⟩) (⟨fol_ob (fol_f hi g2), ObEnt.refl _, ObEnt.refl _, trivial⟩)) (by dsimp only; omega)
  · have g1 := cnd_dec_f h1
    exact k_out (Ent.of_eq (congrArg (fun k : Nat => AV.agg (u8c (folF h i P k))) (by omega)))

end Go.Proofs.YtolcfdcoidpieaaGreatDoor

namespace Go.Proofs.YtolcfdcoidpieaaGreatDoor
open Go Go.Am Go.Sp
set_option maxRecDepth 100000

end Go.Proofs.YtolcfdcoidpieaaGreatDoor

namespace Go.Proofs.YtolcfdcoidpieaaGreatDoor
open Go Go.Am Go.Sp
set_option maxRecDepth 100000

end Go.Proofs.YtolcfdcoidpieaaGreatDoor

namespace Go.Proofs.YtolcfdcoidpieaaGreatDoor
open Go Go.Am Go.Sp
set_option maxRecDepth 100000

theorem indexN_c (l : List Int) (v : Int) (hn : l.length < 9223372036854775808) : Pure Tryz.prog gl0 149 [il .i64 l, .int .i64 v] (.int .i64 (firstI (fun i => l.getD i 0 == v) l.length 0)) := by
  refine pure_sk (own := ow0) Tryz.func149 (by kernel_rfl) mixed (by kernel_rfl)
    (let y0 : AV := (Zi (firstI (fun (i : Nat) => List.getD l i (0 : Int) == v) (List.length l) 0)); (.loop ({ x : Nat // x ≤ List.length l ∧ (fun (i : Nat) => firstI (fun (i : Nat) => List.getD l i (0 : Int) == v) (List.length l) 0 = firstI (fun (i : Nat) => List.getD l i (0 : Int) == v) (List.length l - i) i) x }) (fun (x : { x : Nat // x ≤ List.length l ∧ (fun (i : Nat) => firstI (fun (i : Nat) => List.getD l i (0 : Int) == v) (List.length l) 0 = firstI (fun (i : Nat) => List.getD l i (0 : Int) == v) (List.length l - i) i) x }) => mkSt [0, 1, 7, 8] [AV.isl 1 (List.length l) fun (i x : Nat) => Zi (List.getD l i (0 : Int)), Zi v, Zi (↑(List.length l) : Int), Zi (↑(x.1) : Int)] []) (fun (x : { x : Nat // x ≤ List.length l ∧ (fun (i : Nat) => firstI (fun (i : Nat) => List.getD l i (0 : Int) == v) (List.length l) 0 = firstI (fun (i : Nat) => List.getD l i (0 : Int) == v) (List.length l - i) i) x }) => List.length l - x.1) (⟨0, ⟨Nat.zero_le (List.length l), rfl⟩⟩) ([0, 1, 7, 8]) ([]) ([AV.isl 1 (List.length l) fun (i x : Nat) => Zi (List.getD l i (0 : Int)), Zi v, Zi (↑(List.length l) : Int), Zi 0]) ([]) (fun x0 => (.br (decide ((↑x0.1 : Int) < (↑(List.length l) : Int))) (.req ((0 : Int) ≤ (↑x0.1 : Int) ∧ (↑x0.1 : Int) < (↑(List.length l) : Int)) (.br (v == List.getD l (Int.toNat (↑x0.1 : Int)) (0 : Int)) (.out (Zi (↑x0.1 : Int)) [] y0 []) (.again (Again 0 (fun (x : { x : Nat // x ≤ List.length l ∧ (fun (i : Nat) => firstI (fun (i : Nat) => List.getD l i (0 : Int) == v) (List.length l) 0 = firstI (fun (i : Nat) => List.getD l i (0 : Int) == v) (List.length l - i) i) x }) => mkSt [0, 1, 7, 8] [AV.isl 1 (List.length l) fun (i x : Nat) => Zi (List.getD l i (0 : Int)), Zi v, Zi (↑(List.length l) : Int), Zi (↑(x.1) : Int)] []) (fun (x : { x : Nat // x ≤ List.length l ∧ (fun (i : Nat) => firstI (fun (i : Nat) => List.getD l i (0 : Int) == v) (List.length l) 0 = firstI (fun (i : Nat) => List.getD l i (0 : Int) == v) (List.length l - i) i) x }) => List.length l - x.1) x0) ([0, 1, 7, 8]) ([]) ([AV.isl 1 (List.length l) fun (i x : Nat) => Zi (List.getD l i (0 : Int)), Zi v, Zi (↑(List.length l) : Int), Zi (IntKind.wrap IntKind.i64 ((↑x0.1 : Int) + 1))]) ([])))) (.out (Zi (-1)) [] y0 [])))))
    (by kernel_rfl) ?_
  refine k_loop (fun _ hs => hs.le (⟨.refl _, .refl _, .refl _, .refl _, trivial⟩) (trivial)) (fun x0 => ?_)
  try (have q0 := x0.2; dsimp only at q0)
  refine k_br (fun h1 => ?_) (fun h1 => ?_)
  · have g1 := cnd_dec_t h1
    refine k_req (by omega) ?_
    refine k_br (fun h3 => ?_) (fun h3 => ?_)
    · have g3 := cnd_beq_t h3
      try simp only [Int.toNat_natCast] at g3
      exact k_out (Ent.of_eq (congrArg _ (first_hit x0.2.2 (by omega) (by simp only [beq_iff_eq]; exact g3.symm))))
    · have g3 := cnd_beq_f h3
      try simp only [Int.toNat_natCast] at g3
      exact k_again (⟨x0.1 + 1, by omega, first_next x0.2.2 (by omega) (by simp only [beq_eq_false_iff_ne]; exact fun e => g3 e.symm)⟩) (fun _ hs => hs.le (⟨.refl _, .refl _, .refl _, inc_ent (by omega), trivial⟩) (trivial)) (by dsimp only; omega)
  · have g1 := cnd_dec_f h1
    exact k_out (Ent.of_eq (congrArg _ (first_miss x0.2.2 (by omega))))

theorem containsN_c (l : List Int) (v : Int) (hn : l.length < 9223372036854775808) : Pure Tryz.prog gl0 75 [il .i64 l, .int .i64 v] (.bool (decide (v ∈ l))) := by
  refine pure_sk (own := ow0) Tryz.func75 (by kernel_rfl) mixed (by kernel_rfl)
    (.sc (true) 149 ([AV.isl 1 (List.length l) fun (i x : Nat) => Zi (List.getD l i (0 : Int)), Zi v]) (Zi (firstI (fun (i : Nat) => List.getD l i (0 : Int) == v) (List.length l) 0)) (.out (AV.bool (decide (firstI (fun (i : Nat) => List.getD l i (0 : Int) == v) (List.length l) 0 ≥ 0))) [] (AV.bool (decide (v ∈ l))) []))
    (by kernel_rfl) ?_
  refine k_sc (indexN_c (l) (v) (by assumption)) ?_
  exact k_out (Ent.of_eq (congrArg _ first_mem))



end Go.Proofs.YtolcfdcoidpieaaGreatDoor

namespace Go.Proofs.YtolcfdcoidpieaaGreatDoor
open Go Go.Am Go.Sp
set_option maxRecDepth 100000

end Go.Proofs.YtolcfdcoidpieaaGreatDoor

namespace Go.Proofs.YtolcfdcoidpieaaGreatDoor
open Go Go.Am Go.Sp
set_option maxRecDepth 100000



end Go.Proofs.YtolcfdcoidpieaaGreatDoor

namespace Go.Sp
open Go Go.Am
theorem elem_iff {G : Grp} (h : G.Ok) {x : Int} : elemB G x = true ↔ 1 ≤ x ∧ x < G.p ∧ x ^ G.q.toNat % G.p = 1 := by
  rw [← mem_eq h]
  simp [and_assoc]
theorem pow_ne {a p : Int} {q : Nat} (hq : 0 < q) (h : a ^ q % p = 1) : a % p ≠ 0 := fun e => by
  have h2 : (a % p) ^ q % p = 1 := by rw [pow_mod]; exact h
  rw [e, Int.zero_pow (by omega)] at h2
  simp at h2
theorem elem_of {G : Grp} (h : G.Ok) {x : Int} (hx : x ^ G.q.toNat % G.p = 1) : elemB G (x % G.p) = true := by
  have h3 := h.p3; have h4 := h.q3
  have h1 := Int.emod_nonneg x (show G.p ≠ 0 by omega)
  have h2 := Int.emod_lt_of_pos x (show 0 < G.p by omega)
  have h5 := pow_ne (by omega) hx
  refine (elem_iff h).2 ⟨by omega, h2, ?_⟩
  rw [pow_mod]
  exact hx
theorem elem_pow {G : Grp} (h : G.Ok) {a : Int} (ha : elemB G a = true) (k : Nat) : elemB G (a ^ k % G.p) = true := by
  refine elem_of h ?_
  have h3 := h.p3
  rw [← Int.pow_mul, Nat.mul_comm, Int.pow_mul, ← pow_mod, ((elem_iff h).1 ha).2.2, Int.one_pow, Int.emod_eq_of_lt (by decide) (by omega)]
theorem elem_mul {G : Grp} (h : G.Ok) {a b : Int} (ha : elemB G a = true) (hb : elemB G b = true) : elemB G (a * b % G.p) = true := by
  refine elem_of h ?_
  have h3 := h.p3
  rw [Int.mul_pow, Int.mul_emod, ((elem_iff h).1 ha).2.2, ((elem_iff h).1 hb).2.2]
  exact Int.emod_eq_of_lt (by decide) (by omega)
theorem elem_bnd {G : Grp} (h : G.Ok) {a : Int} (ha : elemB G a = true) : 1 ≤ a ∧ a < G.p := ⟨((elem_iff h).1 ha).1, ((elem_iff h).1 ha).2.1⟩
theorem red_q {q x : Int} (h : 0 ≤ x ∧ x < q) : x % q = x := Int.emod_eq_of_lt h.1 h.2
theorem chS_q {b : Bas} {s : Spend} (h : 0 < b.gr.q) : 0 ≤ chS b s ∧ chS b s < b.gr.q := num_by h 16
end Go.Sp

namespace Go.Proofs.YtolcfdcoidpieaaGreatDoor
open Go Go.Am Go.Sp
set_option maxRecDepth 100000

theorem gcheck_c (G : Grp) (l : List Int) (h : G.Ok) (hw : G.W) (hl : ∀ i, i < l.length → elemB G (l.getD i 0) = true) (hn : l.length < 1000) : Pure Tryz.prog gl0 217 [G.av, il .i64 l] (.int .i64 0) := by
  have c1 := gvalid_c G hw
  rw [validG_iff.2 h] at c1
  have c2 := fun x => element_c G x hw
  refine pure_sk (own := ow0) Tryz.func217 (by kernel_rfl) mixed (by kernel_rfl)
    (let y0 : List (Option Ob) := [some ⟨3, 1, true, Rep.lst [[Zi (Grp.p G), Zi (Grp.q G), Zi (Grp.g G)]]⟩]; (.sc (true) 67 ([AV.agg [Zi G.1, Zi G.2, Zi G.3]]) (AV.bool true) (.ff (.loop ({ x : Nat // x ≤ List.length l }) (fun (x : { x : Nat // x ≤ List.length l }) => mkSt [2, 10, 11, 12] [AV.own 0 3 0 0 3, AV.isl 1 (List.length l) fun (i x : Nat) => Zi (List.getD l i (0 : Int)), Zi (↑(List.length l) : Int), Zi (↑(x.1) : Int)] y0) (fun (x : { x : Nat // x ≤ List.length l }) => List.length l - x.1) (⟨0, Nat.zero_le (List.length l)⟩) ([2, 10, 11, 12]) ([0]) ([AV.own 0 3 0 0 3, AV.isl 1 (List.length l) fun (i x : Nat) => Zi (List.getD l i (0 : Int)), Zi (↑(List.length l) : Int), Zi 0]) (y0) (fun x2 => (.br (decide ((↑x2.1 : Int) < (↑(List.length l) : Int))) (.req ((0 : Int) ≤ (↑x2.1 : Int) ∧ (↑x2.1 : Int) < (↑(List.length l) : Int)) (.sc (true) 135 ([AV.agg [Zi G.1, Zi G.2, Zi G.3], Zi (List.getD l (Int.toNat (↑x2.1 : Int)) (0 : Int))]) (AV.bool (elemB G (List.getD l (Int.toNat (↑x2.1 : Int)) (0 : Int)))) (.br (!elemB G (List.getD l (Int.toNat (↑x2.1 : Int)) (0 : Int))) (.out (Zi 2) [] (Zi 0) []) (.again (Again 0 (fun (x : { x : Nat // x ≤ List.length l }) => mkSt [2, 10, 11, 12] [AV.own 0 3 0 0 3, AV.isl 1 (List.length l) fun (i x : Nat) => Zi (List.getD l i (0 : Int)), Zi (↑(List.length l) : Int), Zi (↑(x.1) : Int)] y0) (fun (x : { x : Nat // x ≤ List.length l }) => List.length l - x.1) x2) ([2, 10, 11, 12]) ([0]) ([AV.own 0 3 0 0 3, AV.isl 1 (List.length l) fun (i x : Nat) => Zi (List.getD l i (0 : Int)), Zi (↑(List.length l) : Int), Zi (IntKind.wrap IntKind.i64 ((↑x2.1 : Int) + 1))]) (y0))))) (.out (Zi 0) [] (Zi 0) [])))))))
    (by kernel_rfl) ?_
  refine k_sc (c1) ?_
  refine k_ff ?_
  refine k_loop (fun _ hs => hs.le (⟨.refl _, .refl _, .refl _, .refl _, trivial⟩) (⟨.refl _, trivial⟩)) (fun x2 => ?_)
  try (have q2 := x2.2; dsimp only at q2)
  refine k_br (fun h3 => ?_) (fun h3 => ?_)
  · have g3 := cnd_dec_t h3
    refine k_req (by omega) ?_
    refine k_sc (c2 (List.getD l (Int.toNat (↑x2.1 : Int)) (0 : Int))) ?_
    refine k_br (fun h6 => ?_) (fun h6 => ?_)
    · have g6 := (cnd_not_t cnd_id_f) h6
      try simp only [Int.toNat_natCast] at g6
      exact k_out ((by exfalso; rw [hl x2.1 (by omega)] at g6; cases g6))
    · have g6 := (cnd_not_f cnd_id_t) h6
      try simp only [Int.toNat_natCast] at g6
      exact k_again (⟨x2.1 + 1, by omega⟩) (fun _ hs => hs.le (⟨.refl _, .refl _, .refl _, inc_ent (by omega), trivial⟩) (⟨.refl _, trivial⟩)) (by dsimp only; omega)
  · have g3 := cnd_dec_f h3
    exact k_out (Ent.of_eq rfl)

theorem gcheck1 (G : Grp) (a : Int) (h : G.Ok) (hw : G.W) (ha : elemB G a = true) : Pure Tryz.prog gl0 217 [G.av, .isl 1 1 fun r k => atL (List.getD [[.int .i64 a]] r []) k] (.int .i64 0) :=
  (gcheck_c G [a] h hw (fun i hi => by obtain rfl : i = 0 := Nat.lt_one_iff.1 hi
                                       exact ha) (by simp)).via ⟨Ent.refl _, il_rows rfl rfl, trivial⟩

theorem gcheck2 (G : Grp) (a c : Int) (h : G.Ok) (hw : G.W) (ha : elemB G a = true) (hc : elemB G c = true) : Pure Tryz.prog gl0 217 [G.av, .isl 1 2 fun r k => atL (List.getD [[.int .i64 a], [.int .i64 c]] r []) k] (.int .i64 0) :=
  (gcheck_c G [a, c] h hw (fun i hi => match i, hi with
    | 0, _ => ha
    | 1, _ => hc) (by simp)).via ⟨Ent.refl _, il_rows rfl rfl, trivial⟩

theorem gmul_c (G : Grp) (a c : Int) (h : G.Ok) (hw : G.W) (ha : elemB G a = true) (hc : elemB G c = true) : Pure Tryz.prog gl0 147 [G.av, .int .i64 a, .int .i64 c] (.tup [.int .i64 (a * c % G.p), .int .i64 0]) := by
  have c1 := gcheck2 G a c h hw ha hc
  have x := elem_bnd h ha
  have y := elem_bnd h hc
  have k1 := h.p1
  have k2 := chk_ok (a := a) (b := c) (m := G.p) (by omega) (by omega) (by omega) (by omega) (by omega) (by omega)
  refine pure_sk (own := ow0) Tryz.func147 (by kernel_rfl) mixed (by kernel_rfl)
    (let y0 : AV := (AV.tup [Zi (okv (chkI a c G.1) (a * c % G.1)), Zi (chkI a c G.1)]); (.sc (true) 217 ([AV.agg [Zi G.1, Zi G.2, Zi G.3], AV.isl 1 2 fun (r k : Nat) => atL (List.getD [[Zi a], [Zi c]] (r + 0) []) k]) (Zi 0) (.ff (.sc (true) 219 ([Zi a, Zi c, Zi G.1]) y0 (.out y0 [] (AV.tup [Zi (a * c % Grp.p G), Zi 0]) [])))))
    (by kernel_rfl) ?_
  refine k_sc (c1) ?_
  refine k_ff ?_
  refine k_sc (wmul_c (a) (c) (G.1)) ?_
  exact k_out (Ent.of_eq (by rw [k2]; rfl))

theorem gpow_c (G : Grp) (a e : Int) (h : G.Ok) (hw : G.W) (ha : elemB G a = true) (he : 0 ≤ e ∧ e < G.q) : Pure Tryz.prog gl0 146 [G.av, .int .i64 a, .int .i64 e] (.tup [.int .i64 (a ^ e.toNat % G.p), .int .i64 0]) := by
  have c1 := gcheck1 G a h hw ha
  have x := elem_bnd h ha
  have k1 := h.p1; have k2 := h.qp; have k3 := h.q3
  have k4 : okv (chkI 0 0 G.q) (e % G.q) = e := by
    rw [chk_ok (by omega) (by omega) (by omega) (by omega) (by omega) (by omega)]
    exact red_q he
  have k5 := powE_0 (chk_ok (a := a) (b := a) (m := G.p) (by omega) (by omega) (by omega) (by omega) (by omega) (by omega)) (by omega : ¬ e < 0)
  refine pure_sk (own := ow0) Tryz.func146 (by kernel_rfl) mixed (by kernel_rfl)
    (let y0 : AV := (AV.tup [Zi (okv (powE a (okv (chkI (0 : Int) (0 : Int) G.2) (e % G.2)) G.1) (a ^ Int.toNat (okv (chkI (0 : Int) (0 : Int) G.2) (e % G.2)) % G.1)), Zi (powE a (okv (chkI (0 : Int) (0 : Int) G.2) (e % G.2)) G.1)]); (.sc (true) 217 ([AV.agg [Zi G.1, Zi G.2, Zi G.3], AV.isl 1 1 fun (r k : Nat) => atL (List.getD [[Zi a]] (r + 0) []) k]) (Zi 0) (.ff (.sc (true) 218 ([Zi e, Zi G.2]) (AV.tup [Zi (okv (chkI (0 : Int) (0 : Int) G.2) (e % G.2)), Zi (chkI (0 : Int) (0 : Int) G.2)]) (.sc (true) 134 ([Zi a, Zi (okv (chkI (0 : Int) (0 : Int) G.2) (e % G.2)), Zi G.1]) y0 (.out y0 [] (AV.tup [Zi (a ^ Int.toNat e % Grp.p G), Zi 0]) []))))))
    (by kernel_rfl) ?_
  refine k_sc (c1) ?_
  refine k_ff ?_
  refine k_sc (wreduce_c (e) (G.2)) ?_
  refine k_sc (wpow_c (a) (okv (chkI (0 : Int) (0 : Int) G.2) (e % G.2)) (G.1) (by rw [k4]; omega)) ?_
  exact k_out (Ent.of_eq (by rw [k4, k5]; rfl))

end Go.Proofs.YtolcfdcoidpieaaGreatDoor

namespace Go.Sp
open Go Go.Am

structure Rcd where
  bank : Int
  epoch : Int
  denom : Int
  value : Int
  depth : Int
  h : Int
  h1 : Int
  h2 : Int
  fr : Int
  til : Int
  fin : Int
def Rcd.key (r : Rcd) : List AV := [.int .i64 r.h, .int .i64 r.h1, .int .i64 r.h2]
def Rcd.cells (r : Rcd) : List AV := [.int .i64 r.bank, .int .i64 r.epoch, .int .i64 r.denom, .int .i64 r.value, .int .i64 r.depth] ++ (r.key ++ [.int .i64 r.fr, .int .i64 r.til, .int .i64 r.fin])
def Rcd.av (r : Rcd) : AV := .agg r.cells

def msgB (G : Grp) (x : Int) : Bool := x != 1 && elemB G x
def keyB (b : Bas) (h h1 h2 : Int) : Bool := validB b && msgB b.gr h && msgB b.gr h1 && msgB b.gr h2
def oneB (v d : Int) : Bool := bif v == 0 then d == 0 else decide (v ≥ 1) && decide (v ≤ 1099511627776) && decide (d ≥ 0) && decide (d ≤ 5) && (Int.tmod v (IntKind.wrap .i64 (1 * 2 ^ min d.toNat 64)) == 0)
def rngB (x l u : Int) : Bool := decide (x ≥ l) && decide (x ≤ u)
def numR (bank epoch fr til fin : Int) : Bool := rngB bank 0 7 && rngB epoch 0 1000000 && decide (fr ≥ 0) && decide (fr < til) && decide (til ≤ fin) && decide (fin ≤ 1099511627776)
def rcvB (b : Bas) (r : Rcd) : Bool := keyB b r.h r.h1 r.h2 && numR r.bank r.epoch r.fr r.til r.fin && rngB r.denom 0 16 && oneB r.value r.depth
theorem ok1 {e v : Int} : (e == 0 && okv e v == 1) = (okv e v == 1) := by
  by_cases h : e = 0
  · subst h; rfl
  · rw [okvn h, show (e == 0) = false by simpa using h]; rfl
theorem sh_ne {d : Int} (h0 : 0 ≤ d) (h5 : d ≤ 5) : IntKind.wrap .i64 (1 * 2 ^ min d.toNat 64) ≠ 0 := by
  rw [shw (x := d.toNat) (by omega)]
  have : 1 ≤ 2 ^ d.toNat := pow_pos2
  omega
theorem u64_s {d : Int} (h0 : 0 ≤ d) (h5 : d ≤ 5) : IntKind.wrap .u64 d = d := by
  have : d = 0 ∨ d = 1 ∨ d = 2 ∨ d = 3 ∨ d = 4 ∨ d = 5 := by omega
  rcases this with rfl | rfl | rfl | rfl | rfl | rfl <;> decide
theorem one_1 {v d : Int} (h : v = 0) (h' : d = 0) : oneB v d = true := by subst h; subst h'; rfl
theorem one_0 {v d : Int} (h : v = 0) : oneB v d = (d == 0) := by subst h; rfl
theorem one_n {v d : Int} (h : ¬ v = 0) : oneB v d = (decide (v ≥ 1) && decide (v ≤ 1099511627776) && decide (d ≥ 0) && decide (d ≤ 5) && (Int.tmod v (IntKind.wrap .i64 (1 * 2 ^ min d.toNat 64)) == 0)) := by
  unfold oneB
  rw [show (v == 0) = false by simpa using h]; rfl
theorem one_2 {v d : Int} (h : ¬ (v = 0 ∧ d = 0)) : (decide (v ≥ 1) && decide (v ≤ 1099511627776) && decide (d ≥ 0) && decide (d ≤ 5) && (Int.tmod v (IntKind.wrap .i64 (1 * 2 ^ min d.toNat 64)) == 0)) = oneB v d := by
  by_cases hv : v = 0
  · rw [one_0 hv, show decide (v ≥ 1) = false by simp; omega]
    have : ¬ d = 0 := fun e => h ⟨hv, e⟩
    simp [this]
  · exact (one_n hv).symm
theorem one_3 {v d : Int} (h : ¬ v = 0) : (decide (v ≥ 1) && decide (v ≤ 1099511627776) && decide (d ≥ 0) && decide (d ≤ 5) && (Int.tmod v (IntKind.wrap .i64 (1 * 2 ^ min (Int.toNat (IntKind.wrap .u64 d)) 64)) == 0)) = oneB v d := by
  rw [one_n h]
  by_cases hd : 0 ≤ d ∧ d ≤ 5
  · rw [u64_s hd.1 hd.2]
  · have : (decide (d ≥ 0) && decide (d ≤ 5)) = false := by
      by_cases h0 : d ≥ 0
      · rw [decide_eq_false (show ¬ d ≤ 5 by omega), Bool.and_false]
      · rw [decide_eq_false h0]; rfl
    rw [Bool.and_assoc (decide (v ≥ 1) && decide (v ≤ 1099511627776)), this]
    simp
theorem rec_1 {n g k : Bool} {v d : Int} : (n && g && (v == 0 && d == 0 || oneB v d) && k) = (k && n && g && oneB v d) := by
  by_cases h : v = 0 ∧ d = 0
  · obtain ⟨rfl, rfl⟩ := h
    cases n <;> cases g <;> cases k <;> rfl
  · have : (v == 0 && d == 0) = false := by simpa using h
    rw [this]
    cases n <;> cases g <;> cases k <;> simp
def crtL (b : Bas) (a : Int) (i : Nat) : Int := [b.gr.p, b.gr.q, b.gr.g, b.g1, b.g2, b.h, a].getD i 0
def crtI (b : Bas) (a : Int) (root : Nat → Int) (z sa sb : Int) : It := lsI [.int b.gr.p, .int b.gr.q, .int b.gr.g, .int b.g1, .int b.g2, .int b.h, .int a, .byt 32 root, .int z, .int sa, .int sb]
def crtN (b : Bas) (a : Int) (root : Nat → Int) (z sa sb : Int) : Int := numF (tagI "specie/coin".toUTF8 (crtI b a root z sa sb)) b.gr.q 16
theorem crtL_ob {os : List (Option Ob)} {b : Bas} {a : Int} {mu : Bool} : ObEnt os ⟨1, 7, mu, .lst [[.int .i64 b.gr.p], [.int .i64 b.gr.q], [.int .i64 b.gr.g], [.int .i64 b.g1], [.int .i64 b.g2], [.int .i64 b.h], [.int .i64 a]]⟩ ⟨1, 7, mu, .fn fun i _ => .int .i64 (crtL b a i)⟩ := lst_fn fun i j hi hj => by
  obtain rfl : j = 0 := by omega
  match i, hi with
  | 0, _ | 1, _ | 2, _ | 3, _ | 4, _ | 5, _ | 6, _ => rfl
def elF (x0 x1 x2 x3 : Int) (i : Nat) : Int := [x0, x1, x2, x3].getD i 0
theorem allE4 {p : Int → Bool} {x0 x1 x2 x3 : Int} : allI (fun i => p (elF x0 x1 x2 x3 i)) 4 = (p x0 && (p x1 && p x2 && p x3)) := by
  unfold allI
  show (p x0 && (p x1 && (p x2 && (p x3 && true)))) = _
  rw [Bool.and_true, Bool.and_assoc (p x1)]
def elsB (G : Grp) (z sa sb : Int) : Bool := elemB G z && elemB G sa && elemB G sb
def crtE (b : Bas) (a z sa sb : Int) : Int := bif validB b then (bif elemB b.gr a && elsB b.gr z sa sb then 0 else 2) else 1
end Go.Sp

namespace Go.Proofs.YtolcfdcoidpieaaGreatDoor
open Go Go.Am Go.Sp
set_option maxRecDepth 100000

theorem within_r (x l u : Int) : Pure Tryz.prog gl0 204 [.int .i64 x, .int .i64 l, .int .i64 u] (.bool (rngB x l u)) := by
  refine pure_sk (own := ow0) Tryz.func204 (by kernel_rfl) mixed (by kernel_rfl)
    (.out (AV.bool (decide (x ≥ l) && decide (x ≤ u))) [] (AV.bool (rngB x l u)) [])
    (by kernel_rfl) ?_
  exact k_out (Ent.refl _)

theorem numbers_c (a b c d e : Int) : Pure Tryz.prog gl0 203 [.int .i64 a, .int .i64 b, .int .i64 c, .int .i64 d, .int .i64 e] (.bool (numR a b c d e)) := by
  refine pure_sk (own := ow0) Tryz.func203 (by kernel_rfl) mixed (by kernel_rfl)
    (.sc (true) 204 ([Zi a, Zi 0, Zi 7]) (AV.bool (rngB a (0 : Int) (7 : Int))) (.sc (rngB a (0 : Int) (7 : Int) == true) 204 ([Zi b, Zi 0, Zi 1000000]) (AV.bool (rngB b (0 : Int) (1000000 : Int))) (.out (AV.bool (rngB a (0 : Int) (7 : Int) && rngB b (0 : Int) (1000000 : Int) && decide (c ≥ 0) && decide (c < d) && decide (d ≤ e) && decide (e ≤ 1099511627776))) [] (AV.bool (numR a b c d e)) [])))
    (by kernel_rfl) ?_
  refine k_sc (within_r (a) ((0 : Int)) ((7 : Int))) ?_
  refine k_scg (fun h1 => within_r (b) ((0 : Int)) ((1000000 : Int))) ?_
  exact k_out (Ent.refl _)

theorem rin_c (x l u : Int) : Pure Tryz.prog gl0 185 [.int .i64 x, .int .i64 l, .int .i64 u] (.bool (rngB x l u)) := by
  refine pure_sk (own := ow0) Tryz.func185 (by kernel_rfl) mixed (by kernel_rfl)
    (.out (AV.bool (decide (x ≥ l) && decide (x ≤ u))) [] (AV.bool (rngB x l u)) [])
    (by kernel_rfl) ?_
  exact k_out (Ent.refl _)

theorem frame_c (a b c d e : Int) : Pure Tryz.prog gl0 184 [.int .i64 a, .int .i64 b, .int .i64 c, .int .i64 d, .int .i64 e] (.bool (numR a b c d e)) := by
  refine pure_sk (own := ow0) Tryz.func184 (by kernel_rfl) mixed (by kernel_rfl)
    (.sc (true) 185 ([Zi a, Zi 0, Zi 7]) (AV.bool (rngB a (0 : Int) (7 : Int))) (.sc (rngB a (0 : Int) (7 : Int) == true) 185 ([Zi b, Zi 0, Zi 1000000]) (AV.bool (rngB b (0 : Int) (1000000 : Int))) (.out (AV.bool (rngB a (0 : Int) (7 : Int) && rngB b (0 : Int) (1000000 : Int) && decide (c ≥ 0) && decide (c < d) && decide (d ≤ e) && decide (e ≤ 1099511627776))) [] (AV.bool (numR a b c d e)) [])))
    (by kernel_rfl) ?_
  refine k_sc (rin_c (a) ((0 : Int)) ((7 : Int))) ?_
  refine k_scg (fun h1 => rin_c (b) ((0 : Int)) ((1000000 : Int))) ?_
  exact k_out (Ent.refl _)

theorem single_c (v d : Int) : Pure Tryz.prog gl0 250 [.agg [.int .i64 v, .int .i64 d]] (.bool (oneB v d)) := by
  refine pure_sk (own := ow0) Tryz.func250 (by kernel_rfl) mixed (by kernel_rfl)
    (.br (v == 0 && (d == 0 && true)) (.out (AV.bool true) [] (AV.bool (oneB v d)) []) (.req (((decide (v ≥ 1) && decide (v ≤ 1099511627776) && decide (d ≥ 0) && decide (d ≤ 5)) == true) = true → (0 : Int) ≤ d) (.req (((decide (v ≥ 1) && decide (v ≤ 1099511627776) && decide (d ≥ 0) && decide (d ≤ 5)) == true) = true → IntKind.wrap IntKind.i64 ((1 : Int) * 2 ^ min (Int.toNat d) 64) ≠ (0 : Int)) (.out (AV.bool (decide (v ≥ 1) && decide (v ≤ 1099511627776) && decide (d ≥ 0) && decide (d ≤ 5) && Int.tmod v (IntKind.wrap IntKind.i64 ((1 : Int) * 2 ^ min (Int.toNat d) 64)) == 0)) [] (AV.bool (oneB v d)) []))))
    (by kernel_rfl) ?_
  refine k_br (fun h0 => ?_) (fun h0 => ?_)
  · have g0 := (cnd_and_t cnd_beq_t (cnd_and_t cnd_beq_t cnd_id_t)) h0
    exact k_out (Ent.of_eq (congrArg _ (one_1 g0.1 g0.2.1).symm))
  · have g0 := (cnd_and_f cnd_beq_f (cnd_and_f cnd_beq_f cnd_id_f)) h0
    refine k_req (fun hr => by simp at hr; omega) ?_
    refine k_req (fun hr => by simp at hr; exact sh_ne (by omega) (by omega)) ?_
    exact k_out (Ent.of_eq (congrArg _ (one_2 (fun h => by rcases g0 with g | g | g; (· exact g h.1); (· exact g h.2); cases g))))

theorem one_c (v d : Int) : Pure Tryz.prog gl0 186 [.agg [.int .i64 v, .int .i64 d]] (.bool (oneB v d)) := by
  refine pure_sk (own := ow0) Tryz.func186 (by kernel_rfl) mixed (by kernel_rfl)
    (let y0 : Nat := (Int.toNat (IntKind.wrap IntKind.u64 d)); (.br (v == 0) (.out (AV.bool (d == 0)) [] (AV.bool (oneB v d)) []) (.req (((decide (v ≥ 1) && decide (v ≤ 1099511627776) && decide (d ≥ 0) && decide (d ≤ 5)) == true) = true → (0 : Int) ≤ IntKind.wrap IntKind.u64 d) (.req (((decide (v ≥ 1) && decide (v ≤ 1099511627776) && decide (d ≥ 0) && decide (d ≤ 5)) == true) = true → IntKind.wrap IntKind.i64 ((1 : Int) * 2 ^ min y0 64) ≠ (0 : Int)) (.out (AV.bool (decide (v ≥ 1) && decide (v ≤ 1099511627776) && decide (d ≥ 0) && decide (d ≤ 5) && Int.tmod v (IntKind.wrap IntKind.i64 ((1 : Int) * 2 ^ min y0 64)) == 0)) [] (AV.bool (oneB v d)) [])))))
    (by kernel_rfl) ?_
  refine k_br (fun h0 => ?_) (fun h0 => ?_)
  · have g0 := cnd_beq_t h0
    exact k_out (Ent.of_eq (congrArg _ (one_0 g0).symm))
  · have g0 := cnd_beq_f h0
    refine k_req (fun hr => by simp at hr; rw [u64_s (by omega) (by omega)]; omega) ?_
    refine k_req (fun hr => by simp at hr; rw [u64_s (by omega) (by omega)]; exact sh_ne (by omega) (by omega)) ?_
    exact k_out (Ent.of_eq (congrArg _ (one_3 g0)))

theorem elementR_c (b : Bas) (x : Int) (hw : b.gr.W) : Pure Tryz.prog gl0 251 [b.av, .int .i64 x] (.bool (elemB b.gr x)) := by
  have hq := hw.q
  refine pure_sk (own := ow0) Tryz.func251 (by kernel_rfl) mixed (by kernel_rfl)
    (.br (decide (x < 1) || decide (x ≥ (Bas.gr b).1)) (.out (AV.bool false) [] (AV.bool (elemB (Bas.gr b) x)) []) (.sc (true) 134 ([Zi x, Zi (Bas.gr b).2, Zi (Bas.gr b).1]) (AV.tup [Zi (okv (powE x (Bas.gr b).2 (Bas.gr b).1) (x ^ Int.toNat (Bas.gr b).2 % (Bas.gr b).1)), Zi (powE x (Bas.gr b).2 (Bas.gr b).1)]) (.out (AV.bool (powE x (Bas.gr b).2 (Bas.gr b).1 == 0 && okv (powE x (Bas.gr b).2 (Bas.gr b).1) (x ^ Int.toNat (Bas.gr b).2 % (Bas.gr b).1) == 1)) [] (AV.bool (elemB (Bas.gr b) x)) [])))
    (by kernel_rfl) ?_
  refine k_br (fun h0 => ?_) (fun h0 => ?_)
  · have g0 := (cnd_or_t cnd_dec_t cnd_dec_t) h0
    exact k_out (Ent.of_eq (congrArg _ (elem_f g0).symm))
  · have g0 := (cnd_or_f cnd_dec_f cnd_dec_f) h0
    refine k_sc (wpow_c (x) ((Bas.gr b).2) ((Bas.gr b).1) (by assumption)) ?_
    exact k_out (Ent.of_eq (congrArg _ (ok1.trans (elem_t g0).symm)))

theorem messageR_c (b : Bas) (x : Int) (hw : b.gr.W) : Pure Tryz.prog gl0 207 [b.av, .int .i64 x] (.bool (msgB b.gr x)) := by
  refine pure_sk (own := ow0) Tryz.func207 (by kernel_rfl) mixed (by kernel_rfl)
    (.sc ((x != 1) == true) 251 ([AV.agg (Bas.cells b), Zi x]) (AV.bool (elemB (Bas.gr b) x)) (.out (AV.bool (x != 1 && elemB b.1 x)) [] (AV.bool (msgB (Bas.gr b) x)) []))
    (by kernel_rfl) ?_
  refine k_scg (fun h0 => (elementR_c b) (x) (by assumption)) ?_
  exact k_out (Ent.refl _)

theorem validR_c (b : Bas) (h h1 h2 : Int) (hw : b.gr.W) : Pure Tryz.prog gl0 206 [b.av, .agg [.int .i64 h, .int .i64 h1, .int .i64 h2]] (.bool (keyB b h h1 h2)) := by
  refine pure_sk (own := ow0) Tryz.func206 (by kernel_rfl) mixed (by kernel_rfl)
    (.sc (true) 34 ([AV.agg (Bas.cells b)]) (AV.bool (validB b)) (.sc (validB b == true) 207 ([AV.agg (Bas.cells b), Zi h]) (AV.bool (msgB (Bas.gr b) h)) (.sc ((validB b && msgB b.1 h) == true) 207 ([AV.agg (Bas.cells b), Zi h1]) (AV.bool (msgB (Bas.gr b) h1)) (.sc ((validB b && msgB b.1 h && msgB b.1 h1) == true) 207 ([AV.agg (Bas.cells b), Zi h2]) (AV.bool (msgB (Bas.gr b) h2)) (.out (AV.bool (validB b && msgB b.1 h && msgB b.1 h1 && msgB b.1 h2)) [] (AV.bool (keyB b h h1 h2)) [])))))
    (by kernel_rfl) ?_
  refine k_sc ((bvalid_c b) (by assumption)) ?_
  refine k_scg (fun h1 => (messageR_c b) (h) (by assumption)) ?_
  refine k_scg (fun h2 => (messageR_c b) (h1) (by assumption)) ?_
  refine k_scg (fun h3 => (messageR_c b) (h2) (by assumption)) ?_
  exact k_out (Ent.refl _)

theorem rmsg_c (G : Grp) (x : Int) (hw : G.Ok) : Pure Tryz.prog gl0 187 [G.av, .int .i64 x] (.bool (msgB G x)) := by
  refine pure_sk (own := ow0) Tryz.func187 (by kernel_rfl) mixed (by kernel_rfl)
    (.sc ((x != 1) == true) 57 ([AV.agg [Zi G.1, Zi G.2, Zi G.3], Zi x]) (AV.bool (elemB G x)) (.out (AV.bool (x != 1 && elemB G x)) [] (AV.bool (msgB G x)) []))
    (by kernel_rfl) ?_
  refine k_scg (fun h0 => (member_c G) (x) (by assumption)) ?_
  exact k_out (Ent.refl _)

theorem rkey_c (b : Bas) (h h1 h2 : Int) (hw : b.gr.W) : Pure Tryz.prog gl0 183 [b.av, .agg [.int .i64 h, .int .i64 h1, .int .i64 h2]] (.bool (keyB b h h1 h2)) := by
  refine pure_sk (own := ow0) Tryz.func183 (by kernel_rfl) mixed (by kernel_rfl)
    (let y0 : List AV := [Zi (Bas.gr b).1, Zi (Bas.gr b).2, Zi (Bas.gr b).3]; (.sc (true) 19 ([AV.agg (Bas.cells b)]) (AV.bool (validB b)) (.sc (validB b == true) 187 ([AV.agg y0, Zi h]) (AV.bool (msgB (Bas.gr b) h)) (.sc ((validB b && msgB b.1 h) == true) 187 ([AV.agg y0, Zi h1]) (AV.bool (msgB (Bas.gr b) h1)) (.sc ((validB b && msgB b.1 h && msgB b.1 h1) == true) 187 ([AV.agg y0, Zi h2]) (AV.bool (msgB (Bas.gr b) h2)) (.out (AV.bool (validB b && msgB b.1 h && msgB b.1 h1 && msgB b.1 h2)) [] (AV.bool (keyB b h h1 h2)) []))))))
    (by kernel_rfl) ?_
  refine k_sc ((r11valid_c b) (hw)) ?_
  refine k_scg (fun h1 => (rmsg_c (Bas.gr b)) (h) ((validB_iff.1 (by simp at h1; simp [h1])).G)) ?_
  refine k_scg (fun h2 => (rmsg_c (Bas.gr b)) (h1) ((validB_iff.1 (by simp at h2; simp [h2])).G)) ?_
  refine k_scg (fun h3 => (rmsg_c (Bas.gr b)) (h2) ((validB_iff.1 (by simp at h3; simp [h3])).G)) ?_
  exact k_out (Ent.refl _)

end Go.Proofs.YtolcfdcoidpieaaGreatDoor

namespace Go.Proofs.YtolcfdcoidpieaaGreatDoor
open Go Go.Am Go.Sp
set_option maxRecDepth 100000

theorem denomV_c0 (v d : Int) : Pure Tryz.prog gl0 205 [.isl 2 1 fun _ k => atL [.int .i64 v, .int .i64 d] k] (.bool (oneB v d)) := by
  have hs := (single_c v d)
  refine pure_sk (own := ow0) Tryz.func205 (by kernel_rfl) mixed (by kernel_rfl)
    (let y0 : AV := (AV.bool (oneB v d)); (.ff (.loop ({ x : Nat // x ≤ 1 ∧ (fun (x : Nat) => 0 < x → oneB v d = true) x }) (fun (x : { x : Nat // x ≤ 1 ∧ (fun (x : Nat) => 0 < x → oneB v d = true) x }) => mkSt [0, 12, 13, 14, 2, 15] [AV.isl 2 1 fun (x k : Nat) => atL [Zi v, Zi d] k, AV.bool false, AV.isl 2 1 fun (x k : Nat) => atL [Zi v, Zi d] k, Zi (↑(1) : Int), AV.bool false, Zi (↑(x.1) : Int)] []) (fun (x : { x : Nat // x ≤ 1 ∧ (fun (x : Nat) => 0 < x → oneB v d = true) x }) => 1 - x.1) (⟨0, ⟨Nat.zero_le 1, fun (h : 0 < 0) => absurd h (Nat.lt_irrefl 0)⟩⟩) ([0, 12, 13, 14, 2, 15]) ([]) ([AV.isl 2 1 fun (x k : Nat) => atL [Zi v, Zi d] k, AV.bool false, AV.isl 2 1 fun (x k : Nat) => atL [Zi v, Zi d] k, Zi (↑(1) : Int), AV.bool false, Zi 0]) ([]) (fun x1 => (.br (decide ((↑x1.1 : Int) < (↑(1) : Int))) (.req ((0 : Int) ≤ (↑x1.1 : Int) ∧ (↑x1.1 : Int) < (↑(1) : Int)) (.sc (true) 250 ([AV.agg [Zi v, Zi d]]) y0 (.br (!oneB v d) (.out (AV.bool false) [] y0 []) (.req ((decide ((↑x1.1 : Int) > 0) == true) = true → (0 : Int) ≤ IntKind.wrap IntKind.i64 ((↑x1.1 : Int) - 1) ∧ IntKind.wrap IntKind.i64 ((↑x1.1 : Int) - 1) < (↑(1) : Int)) (.req ((decide ((↑x1.1 : Int) > 0) == true && decide (v < v) == false) = true → (0 : Int) ≤ IntKind.wrap IntKind.i64 ((↑x1.1 : Int) - 1) ∧ IntKind.wrap IntKind.i64 ((↑x1.1 : Int) - 1) < (↑(1) : Int)) (.req ((decide ((↑x1.1 : Int) > 0) == true && decide (v < v) == false && (v == v) == true) = true → (0 : Int) ≤ IntKind.wrap IntKind.i64 ((↑x1.1 : Int) - 1) ∧ IntKind.wrap IntKind.i64 ((↑x1.1 : Int) - 1) < (↑(1) : Int)) (.br (decide ((↑x1.1 : Int) > 0) && (decide (v < v) || v == v && decide (d ≤ d))) (.out (AV.bool false) [] y0 []) (.again (Again 0 (fun (x : { x : Nat // x ≤ 1 ∧ (fun (x : Nat) => 0 < x → oneB v d = true) x }) => mkSt [0, 12, 13, 14, 2, 15] [AV.isl 2 1 fun (x k : Nat) => atL [Zi v, Zi d] k, AV.bool false, AV.isl 2 1 fun (x k : Nat) => atL [Zi v, Zi d] k, Zi (↑(1) : Int), AV.bool false, Zi (↑(x.1) : Int)] []) (fun (x : { x : Nat // x ≤ 1 ∧ (fun (x : Nat) => 0 < x → oneB v d = true) x }) => 1 - x.1) x1) ([0, 12, 13, 14, 2, 15]) ([]) ([AV.isl 2 1 fun (x k : Nat) => atL [Zi v, Zi d] k, AV.bool false, AV.isl 2 1 fun (x k : Nat) => atL [Zi v, Zi d] k, Zi (↑(1) : Int), AV.bool false, Zi (IntKind.wrap IntKind.i64 ((↑x1.1 : Int) + 1))]) ([]))))))))) (.out (AV.bool true) [] y0 []))))))
    (by kernel_rfl) ?_
  refine k_ff ?_
  refine k_loop (fun _ hs => hs.le (⟨.refl _, .refl _, .refl _, .refl _, .refl _, .refl _, trivial⟩) (trivial)) (fun x1 => ?_)
  try (have q1 := x1.2; dsimp only at q1)
  refine k_br (fun h2 => ?_) (fun h2 => ?_)
  · have g2 := cnd_dec_t h2
    refine k_req (by omega) ?_
    refine k_sc (hs) ?_
    refine k_br (fun h5 => ?_) (fun h5 => ?_)
    · have g5 := (cnd_not_t cnd_id_f) h5
      exact k_out (by exact Ent.of_eq (congrArg _ (by simp_all)))
    · have g5 := (cnd_not_f cnd_id_t) h5
      refine k_req (fun hr => by have hr := (cnd_eqt_t cnd_dec_t) hr; omega) ?_
      refine k_req (fun hr => by have hr := (cnd_and_t (cnd_eqt_t cnd_dec_t) (cnd_eqf_t cnd_dec_f)) hr; omega) ?_
      refine k_req (fun hr => by have hr := (cnd_and_t (cnd_and_t (cnd_eqt_t cnd_dec_t) (cnd_eqf_t cnd_dec_f)) (cnd_eqt_t cnd_beq_t)) hr; omega) ?_
      refine k_br (fun h10 => ?_) (fun h10 => ?_)
      · have g10 := (cnd_and_t cnd_dec_t (cnd_or_t cnd_dec_t (cnd_and_t cnd_beq_t cnd_dec_t))) h10
        exact k_out (by (exfalso; omega))
      · have g10 := (cnd_and_f cnd_dec_f (cnd_or_f cnd_dec_f (cnd_and_f cnd_beq_f cnd_dec_f))) h10
        exact k_again (⟨x1.1 + 1, by omega, fun _ => g5⟩) (fun _ hs => hs.le (⟨.refl _, .refl _, .refl _, .refl _, .refl _, inc_ent (by omega), trivial⟩) (trivial)) (by dsimp only; omega)
  · have g2 := cnd_dec_f h2
    exact k_out (by exact Ent.of_eq (congrArg _ (q1.2 (by omega)).symm))

theorem denomV_c (v d : Int) : Pure Tryz.prog gl0 205 [.isl 2 1 fun r k => atL (List.getD [[.int .i64 v, .int .i64 d]] r []) k] (.bool (oneB v d)) :=
  (denomV_c0 v d).via ⟨Ent.isl fun i j hi _ => by obtain rfl : i = 0 := Nat.lt_one_iff.1 hi
                                                  rfl, trivial⟩

theorem recV_c (b : Bas) (r : Rcd) (hw : b.gr.W) : Pure Tryz.prog gl0 138 [b.av, r.av] (.bool (rcvB b r)) := by
  have h1 := denomV_c r.value r.depth
  have h2 := validR_c b r.h r.h1 r.h2 hw
  refine pure_sk (own := ow0) Tryz.func138 (by kernel_rfl) mixed (by kernel_rfl)
    (.sc (true) 203 ([Zi r.1, Zi r.2, Zi r.9, Zi r.10, Zi r.11]) (AV.bool (numR r.1 r.2 r.9 r.10 r.11)) (.sc (numR r.1 r.2 r.9 r.10 r.11 == true) 204 ([Zi r.3, Zi 0, Zi 16]) (AV.bool (rngB r.3 (0 : Int) (16 : Int))) (.sc ((numR r.1 r.2 r.9 r.10 r.11 && rngB r.3 (0 : Int) (16 : Int)) == true && (r.4 == 0 && r.5 == 0) == false) 205 ([AV.isl 2 1 fun (r_1 k : Nat) => atL (List.getD [[Zi r.4, Zi r.5]] (r_1 + 0) []) k]) (AV.bool (oneB (Rcd.value r) (Rcd.depth r))) (.sc ((numR r.1 r.2 r.9 r.10 r.11 && rngB r.3 (0 : Int) (16 : Int) && (r.4 == 0 && r.5 == 0 || oneB r.4 r.5)) == true) 206 ([AV.agg (Bas.cells b), AV.agg [Zi r.6, Zi r.7, Zi r.8]]) (AV.bool (keyB b (Rcd.h r) (Rcd.h1 r) (Rcd.h2 r))) (.out (AV.bool (numR r.1 r.2 r.9 r.10 r.11 && rngB r.3 (0 : Int) (16 : Int) && (r.4 == 0 && r.5 == 0 || oneB r.4 r.5) && keyB b r.6 r.7 r.8)) [] (AV.bool (rcvB b r)) [])))))
    (by kernel_rfl) ?_
  refine k_sc (numbers_c (r.1) (r.2) (r.9) (r.10) (r.11)) ?_
  refine k_scg (fun h1 => within_r (r.3) ((0 : Int)) ((16 : Int))) ?_
  refine k_scg (fun h2 => h1) ?_
  refine k_scg (fun h3 => h2) ?_
  exact k_out (Ent.of_eq (congrArg _ rec_1))

theorem rrecV_c (b : Bas) (r : Rcd) (hw : b.gr.W) : Pure Tryz.prog gl0 117 [b.av, r.av] (.bool (rcvB b r)) := by
  have h1 := one_c r.value r.depth
  have h2 := rkey_c b r.h r.h1 r.h2 hw
  refine pure_sk (own := ow0) Tryz.func117 (by kernel_rfl) mixed (by kernel_rfl)
    (.sc (true) 183 ([AV.agg (Bas.cells b), AV.agg [Zi r.6, Zi r.7, Zi r.8]]) (AV.bool (keyB b (Rcd.h r) (Rcd.h1 r) (Rcd.h2 r))) (.sc (keyB b r.6 r.7 r.8 == true) 184 ([Zi r.1, Zi r.2, Zi r.9, Zi r.10, Zi r.11]) (AV.bool (numR r.1 r.2 r.9 r.10 r.11)) (.sc ((keyB b r.6 r.7 r.8 && numR r.1 r.2 r.9 r.10 r.11) == true) 185 ([Zi r.3, Zi 0, Zi 16]) (AV.bool (rngB r.3 (0 : Int) (16 : Int))) (.sc ((keyB b r.6 r.7 r.8 && numR r.1 r.2 r.9 r.10 r.11 && rngB r.3 (0 : Int) (16 : Int)) == true) 186 ([AV.agg [Zi r.4, Zi r.5]]) (AV.bool (oneB (Rcd.value r) (Rcd.depth r))) (.out (AV.bool (keyB b r.6 r.7 r.8 && numR r.1 r.2 r.9 r.10 r.11 && rngB r.3 (0 : Int) (16 : Int) && oneB r.4 r.5)) [] (AV.bool (rcvB b r)) [])))))
    (by kernel_rfl) ?_
  refine k_sc (h2) ?_
  refine k_scg (fun h1 => frame_c (r.1) (r.2) (r.9) (r.10) (r.11)) ?_
  refine k_scg (fun h2 => rin_c (r.3) ((0 : Int)) ((16 : Int))) ?_
  refine k_scg (fun h3 => h1) ?_
  exact k_out (Ent.refl _)

theorem numI_c (n : Int) : Pure Tryz.prog gl0 253 [.int .i64 n] (It.int n).av := by
  refine pure_sk (own := ow0) Tryz.func253 (by kernel_rfl) mixed (by kernel_rfl)
    (.out (AV.agg [Zi 1, Zi n, AV.nsl, AV.nsl]) [] (It.av (It.int n)) [])
    (by kernel_rfl) ?_
  exact k_out (Ent.agg ⟨Ent.refl _, Ent.refl _, Ent.nsl, Ent.nsl, trivial⟩)

theorem rnumI_c (n : Int) : Pure Tryz.prog gl0 238 [.int .i64 n] (It.int n).av := by
  refine pure_sk (own := ow0) Tryz.func238 (by kernel_rfl) mixed (by kernel_rfl)
    (.out (AV.agg [Zi 1, Zi n, AV.nsl, AV.nsl]) [] (It.av (It.int n)) [])
    (by kernel_rfl) ?_
  exact k_out (Ent.agg ⟨Ent.refl _, Ent.refl _, Ent.nsl, Ent.nsl, trivial⟩)

theorem rNumbers_c (b : Bas) : Pure Tryz.prog gl0 237 [b.av] (.isl 1 6 fun i _ => .int .i64 (crtL b 0 i)) := by
  refine pure_sk (own := ow0) Tryz.func237 (by kernel_rfl) mixed (by kernel_rfl)
    (.out (AV.isl 1 6 fun (r k : Nat) => atL (List.getD [[Zi (Bas.gr b).1], [Zi (Bas.gr b).2], [Zi (Bas.gr b).3], [Zi b.2], [Zi b.3], [Zi b.4]] (r + 0) []) k) [] (AV.isl 1 6 fun (i x : Nat) => Zi (crtL b (0 : Int) i)) [])
    (by kernel_rfl) ?_
  exact k_out (Ent.isl fun i j hi hj => by obtain rfl : j = 0 := Nat.lt_one_iff.1 hj; match i, hi with | 0, _ | 1, _ | 2, _ | 3, _ | 4, _ | 5, _ => rfl)

theorem relems_c (G : Grp) (z sa sb r : Int) (hw : G.Ok) : Pure Tryz.prog gl0 188 [G.av, .agg [.int .i64 z, .int .i64 sa, .int .i64 sb, .int .i64 r]] (.bool (elsB G z sa sb)) := by
  refine pure_sk (own := ow0) Tryz.func188 (by kernel_rfl) mixed (by kernel_rfl)
    (let y0 : List AV := [Zi G.1, Zi G.2, Zi G.3]; (.sc (true) 57 ([AV.agg y0, Zi z]) (AV.bool (elemB G z)) (.sc (elemB G z == true) 57 ([AV.agg y0, Zi sa]) (AV.bool (elemB G sa)) (.sc ((elemB G z && elemB G sa) == true) 57 ([AV.agg y0, Zi sb]) (AV.bool (elemB G sb)) (.out (AV.bool (elemB G z && elemB G sa && elemB G sb)) [] (AV.bool (elsB G z sa sb)) [])))))
    (by kernel_rfl) ?_
  refine k_sc ((member_c G) (z) (by assumption)) ?_
  refine k_scg (fun h1 => (member_c G) (sa) (by assumption)) ?_
  refine k_scg (fun h2 => (member_c G) (sb) (by assumption)) ?_
  exact k_out (Ent.refl _)

theorem scalR_c (b : Bas) (x : Int) : Pure Tryz.prog gl0 208 [b.av, .int .i64 x] (.bool (decide (x ≥ 0) && decide (x < b.gr.q))) := by
  refine pure_sk (own := ow0) Tryz.func208 (by kernel_rfl) mixed (by kernel_rfl)
    (.out (AV.bool (decide (x ≥ 0) && decide (x < (Bas.gr b).2))) [] (AV.bool (decide (x ≥ 0) && decide (x < Grp.q (Bas.gr b)))) [])
    (by kernel_rfl) ?_
  exact k_out (Ent.refl _)

theorem rscalR_c (G : Grp) (x : Int) : Pure Tryz.prog gl0 189 [G.av, .int .i64 x] (.bool (decide (x ≥ 0) && decide (x < G.q))) := by
  refine pure_sk (own := ow0) Tryz.func189 (by kernel_rfl) mixed (by kernel_rfl)
    (.out (AV.bool (decide (x ≥ 0) && decide (x < G.2))) [] (AV.bool (decide (x ≥ 0) && decide (x < Grp.q G))) [])
    (by kernel_rfl) ?_
  exact k_out (Ent.refl _)

theorem powR_c (b : Bas) (x e : Int) (h : b.gr.Ok) (hx : 0 ≤ x ∧ x < b.gr.p) (he : 0 ≤ e ∧ e < b.gr.q) : Pure Tryz.prog gl0 210 [b.av, .int .i64 x, .int .i64 e] (.int .i64 (x ^ e.toNat % b.gr.p)) := by
  have k1 := h.p1; have k2 := h.qp; have k3 := h.p3
  have k5 := powE_0 (chk_ok (a := x) (b := x) (m := b.gr.p) (by omega) (by omega) (by omega) (by omega) (by omega) (by omega)) (by omega : ¬ e < 0)
  refine pure_sk (own := ow0) Tryz.func210 (by kernel_rfl) mixed (by kernel_rfl)
    (.sc (true) 134 ([Zi x, Zi e, Zi (Bas.gr b).1]) (AV.tup [Zi (okv (powE x e (Bas.gr b).1) (x ^ Int.toNat e % (Bas.gr b).1)), Zi (powE x e (Bas.gr b).1)]) (.out (Zi (okv (powE x e (Bas.gr b).1) (x ^ Int.toNat e % (Bas.gr b).1))) [] (Zi (x ^ Int.toNat e % Grp.p (Bas.gr b))) []))
    (by kernel_rfl) ?_
  refine k_sc (wpow_c (x) (e) ((Bas.gr b).1) (by omega)) ?_
  exact k_out (Ent.of_eq (by rw [k5]; rfl))

theorem rpowR_c (G : Grp) (x e : Int) (h : G.Ok) (hx : 0 ≤ x ∧ x < G.p) (he : 0 ≤ e ∧ e < G.q) : Pure Tryz.prog gl0 191 [G.av, .int .i64 x, .int .i64 e] (.int .i64 (x ^ e.toNat % G.p)) := by
  have k1 := h.p1; have k2 := h.qp; have k3 := h.p3
  refine pure_sk (own := ow0) Tryz.func191 (by kernel_rfl) mixed (by kernel_rfl)
    (.sc (true) 116 ([Zi x, Zi e, Zi G.1]) (Zi (x ^ Int.toNat e % G.1)) (.out (Zi (x ^ Int.toNat e % G.1)) [] (Zi (x ^ Int.toNat e % Grp.p G)) []))
    (by kernel_rfl) ?_
  refine k_sc (rpow_c (x) (e) (G.1) (by omega) (by omega) (by omega) (by omega) (by assumption)) ?_
  exact k_out (Ent.refl _)

theorem mulR_c (b : Bas) (x y : Int) (h : b.gr.Ok) (hx : 0 ≤ x ∧ x < b.gr.p) (hy : 0 ≤ y ∧ y < b.gr.p) : Pure Tryz.prog gl0 254 [b.av, .int .i64 x, .int .i64 y] (.int .i64 (x * y % b.gr.p)) := by
  have k1 := h.p1; have k3 := h.p3
  have k2 := chk_ok (a := x) (b := y) (m := b.gr.p) (by omega) (by omega) (by omega) (by omega) (by omega) (by omega)
  refine pure_sk (own := ow0) Tryz.func254 (by kernel_rfl) mixed (by kernel_rfl)
    (.sc (true) 219 ([Zi x, Zi y, Zi (Bas.gr b).1]) (AV.tup [Zi (okv (chkI x y (Bas.gr b).1) (x * y % (Bas.gr b).1)), Zi (chkI x y (Bas.gr b).1)]) (.out (Zi (okv (chkI x y (Bas.gr b).1) (x * y % (Bas.gr b).1))) [] (Zi (x * y % Grp.p (Bas.gr b))) []))
    (by kernel_rfl) ?_
  refine k_sc (wmul_c (x) (y) ((Bas.gr b).1)) ?_
  exact k_out (Ent.of_eq (by rw [k2]; rfl))

theorem rmulR_c (G : Grp) (x y : Int) (h : G.Ok) (hx : 0 ≤ x ∧ x < G.p) (hy : 0 ≤ y ∧ y < G.p) : Pure Tryz.prog gl0 192 [G.av, .int .i64 x, .int .i64 y] (.int .i64 (x * y % G.p)) := by
  have k1 := h.p1; have k3 := h.p3
  refine pure_sk (own := ow0) Tryz.func192 (by kernel_rfl) mixed (by kernel_rfl)
    (.sc (true) 110 ([Zi x, Zi y, Zi G.1]) (Zi (x * y % G.1)) (.out (Zi (x * y % G.1)) [] (Zi (x * y % Grp.p G)) []))
    (by kernel_rfl) ?_
  refine k_sc (rmul_c (x) (y) (G.1) (by omega) (by omega) (by omega) (by omega) (by assumption)) ?_
  exact k_out (Ent.refl _)

theorem prodR_c (b : Bas) (x e y : Int) (h : b.gr.Ok) (hx : 0 ≤ x ∧ x < b.gr.p) (he : 0 ≤ e ∧ e < b.gr.q) (hy : 0 ≤ y ∧ y < b.gr.p) : Pure Tryz.prog gl0 211 [b.av, .int .i64 x, .int .i64 e, .int .i64 y, .int .i64 1] (.int .i64 (x ^ e.toNat % b.gr.p * y % b.gr.p)) := by
  have k1 := h.p1; have k3 := h.p3; have kq := h.q3
  have c1 := powR_c b x e h hx he
  have c2 := powR_c b y 1 h hy (by omega)
  have m1 : 0 ≤ x ^ e.toNat % b.gr.p ∧ x ^ e.toNat % b.gr.p < b.gr.p := ⟨Int.emod_nonneg _ (by omega), Int.emod_lt_of_pos _ (by omega)⟩
  have y1 : y ^ (1 : Int).toNat % b.gr.p = y := by rw [show (1 : Int).toNat = 1 from rfl, Int.pow_succ, Int.pow_zero, Int.one_mul, Int.emod_eq_of_lt hy.1 hy.2]
  rw [y1] at c2
  have c3 := mulR_c b _ y h m1 hy
  refine pure_sk (own := ow0) Tryz.func211 (by kernel_rfl) mixed (by kernel_rfl)
    (let y0 : AV := (Zi (x ^ Int.toNat e % Grp.p (Bas.gr b) * y % Grp.p (Bas.gr b))); (.sc (true) 210 ([AV.agg (Bas.cells b), Zi x, Zi e]) (Zi (x ^ Int.toNat e % Grp.p (Bas.gr b))) (.sc (true) 210 ([AV.agg (Bas.cells b), Zi y, Zi 1]) (Zi y) (.sc (true) 254 ([AV.agg (Bas.cells b), Zi (x ^ Int.toNat e % (Bas.gr b).1), Zi y]) y0 (.out (Zi (x ^ Int.toNat e % (Bas.gr b).1 * y % (Bas.gr b).1)) [] y0 [])))))
    (by kernel_rfl) ?_
  refine k_sc (c1) ?_
  refine k_sc (c2) ?_
  refine k_sc (c3) ?_
  exact k_out (Ent.refl _)

theorem elemsR_c0 (b : Bas) (u0 u1 u2 u3 : Int) (hw : b.gr.W) : Pure Tryz.prog gl0 252 [b.av, .isl 1 4 fun i _ => .int .i64 (elF u0 u1 u2 u3 i)] (.bool (elemB b.gr u0 && elsB b.gr u1 u2 u3)) := by
  have e : allI (fun i => elemB b.gr (elF u0 u1 u2 u3 i)) 4 = (elemB b.gr u0 && elsB b.gr u1 u2 u3) := allE4
  rw [← e]; clear e
  refine pure_sk (own := ow0) Tryz.func252 (by kernel_rfl) mixed (by kernel_rfl)
    (let y0 : List (Option Ob) := [some ⟨6, 1, true, Rep.lst [Bas.cells b]⟩]; let y1 : AV := (AV.bool (allI (fun (i : Nat) => elemB (Bas.gr b) (elF u0 u1 u2 u3 i)) 4)); (.loop ({ x : Nat // x ≤ 4 ∧ (fun (i : Nat) => ∀ (j : Nat), j < i → elemB (Bas.gr b) (elF u0 u1 u2 u3 j) = true) x }) (fun (x : { x : Nat // x ≤ 4 ∧ (fun (i : Nat) => ∀ (j : Nat), j < i → elemB (Bas.gr b) (elF u0 u1 u2 u3 j) = true) x }) => mkSt [2, 7, 8, 9] [AV.own 0 6 0 0 6, AV.isl 1 4 fun (i x : Nat) => Zi (elF u0 u1 u2 u3 i), Zi (↑(4) : Int), Zi (↑(x.1) : Int)] y0) (fun (x : { x : Nat // x ≤ 4 ∧ (fun (i : Nat) => ∀ (j : Nat), j < i → elemB (Bas.gr b) (elF u0 u1 u2 u3 j) = true) x }) => 4 - x.1) (⟨0, ⟨Nat.zero_le 4, fun (j : Nat) (hj : j < 0) => absurd hj (Nat.not_lt_zero j)⟩⟩) ([2, 7, 8, 9]) ([0]) ([AV.own 0 6 0 0 6, AV.isl 1 4 fun (i x : Nat) => Zi (elF u0 u1 u2 u3 i), Zi (↑(4) : Int), Zi 0]) (y0) (fun x0 => (.br (decide ((↑x0.1 : Int) < (↑(4) : Int))) (.req ((0 : Int) ≤ (↑x0.1 : Int) ∧ (↑x0.1 : Int) < (↑(4) : Int)) (.sc (true) 251 ([AV.agg (Bas.cells b), Zi (elF u0 u1 u2 u3 (Int.toNat (↑x0.1 : Int)))]) (AV.bool (elemB (Bas.gr b) (elF u0 u1 u2 u3 (Int.toNat (↑x0.1 : Int))))) (.br (!elemB b.1 (elF u0 u1 u2 u3 (Int.toNat (↑x0.1 : Int)))) (.out (AV.bool false) [] y1 []) (.again (Again 0 (fun (x : { x : Nat // x ≤ 4 ∧ (fun (i : Nat) => ∀ (j : Nat), j < i → elemB (Bas.gr b) (elF u0 u1 u2 u3 j) = true) x }) => mkSt [2, 7, 8, 9] [AV.own 0 6 0 0 6, AV.isl 1 4 fun (i x : Nat) => Zi (elF u0 u1 u2 u3 i), Zi (↑(4) : Int), Zi (↑(x.1) : Int)] y0) (fun (x : { x : Nat // x ≤ 4 ∧ (fun (i : Nat) => ∀ (j : Nat), j < i → elemB (Bas.gr b) (elF u0 u1 u2 u3 j) = true) x }) => 4 - x.1) x0) ([2, 7, 8, 9]) ([0]) ([AV.own 0 6 0 0 6, AV.isl 1 4 fun (i x : Nat) => Zi (elF u0 u1 u2 u3 i), Zi (↑(4) : Int), Zi (IntKind.wrap IntKind.i64 ((↑x0.1 : Int) + 1))]) (y0))))) (.out (AV.bool true) [] y1 [])))))
    (by kernel_rfl) ?_
  refine k_loop (fun _ hs => hs.le (⟨.refl _, .refl _, .refl _, .refl _, trivial⟩) (⟨.refl _, trivial⟩)) (fun x0 => ?_)
  try (have q0 := x0.2; dsimp only at q0)
  refine k_br (fun h1 => ?_) (fun h1 => ?_)
  · have g1 := cnd_dec_t h1
    refine k_req (by omega) ?_
    refine k_sc ((elementR_c b) (elF u0 u1 u2 u3 (Int.toNat (↑x0.1 : Int))) (by assumption)) ?_
    refine k_br (fun h4 => ?_) (fun h4 => ?_)
    · have g4 := (cnd_not_t cnd_id_f) h4
      try simp only [Int.toNat_natCast] at g4
      exact k_out (by exact Ent.of_eq (congrArg _ (allI_f (i := x0.1) (by omega) g4).symm))
    · have g4 := (cnd_not_f cnd_id_t) h4
      try simp only [Int.toNat_natCast] at g4
      exact k_again (⟨x0.1 + 1, by omega, all_next q0.2 g4⟩) (fun _ hs => hs.le (⟨.refl _, .refl _, .refl _, inc_ent (by omega), trivial⟩) (⟨.refl _, trivial⟩)) (by dsimp only; omega)
  · have g1 := cnd_dec_f h1
    exact k_out (by exact Ent.of_eq (congrArg _ (allI_t fun i hi => q0.2 i (by omega)).symm))

theorem elemsR_c (b : Bas) (x0 x1 x2 x3 : Int) (hw : b.gr.W) : Pure Tryz.prog gl0 252 [b.av, .isl 1 4 fun r k => atL (List.getD [[.int .i64 x0], [.int .i64 x1], [.int .i64 x2], [.int .i64 x3]] r []) k] (.bool (elemB b.gr x0 && elsB b.gr x1 x2 x3)) :=
  (elemsR_c0 b x0 x1 x2 x3 hw).via ⟨Ent.refl _, Ent.isl fun i j hi hj => by obtain rfl : j = 0 := Nat.lt_one_iff.1 hj
                                                                            match i, hi with | 0, _ | 1, _ | 2, _ | 3, _ => rfl, trivial⟩


end Go.Proofs.YtolcfdcoidpieaaGreatDoor

namespace Go.Sp
open Go Go.Am

def crtJ (b : Bas) (a : Int) (root : Nat → Int) (z sa sb : Int) : List It := [.int b.gr.p, .int b.gr.q, .int b.gr.g, .int b.g1, .int b.g2, .int b.h, .int a, .byt 32 root, .int z, .int sa, .int sb]
theorem liU_out {os : List (Option Ob)} {L : List It} {n : Nat} {F : Nat → Nat → AV} (hn : n = L.length) (h : ∀ i k, i < n → k < 4 → Ent os (F i k) (atL (L.getD i (.int 0)).cells k)) :
    Ent os (.agg [.int .i64 3, .int .i64 0, .nsl, .isl 4 n F]) (lsI L).av := by
  subst hn
  exact Ent.agg ⟨Ent.refl _, Ent.refl _, Ent.nsl, Ent.islE (fun i j hi hj => ⟨h i j hi hj, It.cl_at _ j hj⟩), trivial⟩
theorem byt_root {os : List (Option Ob)} (n : Nat) {f g : Nat → Int} (h : ∀ i, i < n → f i = g i) : EntL os [.int .i64 2, .int .i64 0, .isl 1 n fun i _ => .int .u8 (f i), .nsl] (It.byt n g).cells :=
  ⟨Ent.refl _, Ent.refl _, Ent.isl fun i _ hi _ => congrArg (AV.int .u8) (h i hi), Ent.nsl, trivial⟩
theorem crtF_ok {os : List (Option Ob)} {b : Bas} {a z sa sb : Int} {root : Nat → Int} {x : Nat} (hx : x = 7) {i k : Nat} (hi : i < x + 4) :
    Ent os (mixA (Nat.blt (i + 0) x) (atL (It.int (crtL b a (i + 0))).cells k)
      (atL (List.getD [[AV.int IntKind.i64 (2 : Int), AV.int IntKind.i64 (0 : Int), AV.isl 1 32 fun (r _ : Nat) => AV.int IntKind.u8 (intOfAV (atL (u8c root) (0 + (0 + r)))), AV.nsl], (It.int z).cells, (It.int sa).cells, (It.int sb).cells] (i + 0 - x) []) k))
      (atL ((crtJ b a root z sa sb).getD i (.int 0)).cells k) := by
  subst hx
  match i, hi with
  | 0, _ | 1, _ | 2, _ | 3, _ | 4, _ | 5, _ | 6, _ => exact Ent.of_eq (mixA_tt _ _)
  | 7, _ =>
    show Ent os (mixA false _ _) _
    rw [mixA_ff]
    refine Ent.atL (byt_root 32 fun i hi => ?_) k
    rw [Nat.zero_add, Nat.zero_add]
    exact u8c_at hi
  | 8, _ | 9, _ | 10, _ => exact Ent.of_eq (mixA_ff _ _)
theorem rcrtF_ok {os : List (Option Ob)} {b : Bas} {a z sa sb : Int} {root : Nat → Int} {x y : Nat} (hx : x = 6) (hy : y = 32) {i k : Nat} (hi : i < x + 5) :
    Ent os (mixA (Nat.blt (i + 0) x) (atL (It.int (crtL b 0 (i + 0))).cells k)
      (atL (List.getD [(It.int a).cells, [AV.int IntKind.i64 (2 : Int), AV.int IntKind.i64 (0 : Int), AV.isl 1 y fun (r _ : Nat) => AV.int IntKind.u8 (root (r + 0)), AV.nsl], (It.int z).cells, (It.int sa).cells, (It.int sb).cells] (i + 0 - x) []) k))
      (atL ((crtJ b a root z sa sb).getD i (.int 0)).cells k) := by
  subst hx; subst hy
  match i, hi with
  | 0, _ | 1, _ | 2, _ | 3, _ | 4, _ | 5, _ => exact Ent.of_eq (mixA_tt _ _)
  | 7, _ =>
    show Ent os (mixA false _ _) _
    rw [mixA_ff]
    exact Ent.atL (byt_root 32 fun i hi => rfl) k
  | 6, _ | 8, _ | 9, _ | 10, _ => exact Ent.of_eq (mixA_ff _ _)
theorem root_push {os : List (Option Ob)} {y y' : Nat} {root c : Nat → Int} (hy : y' = y + 1) (h : c 0 = root y) :
    ObEnt os ⟨1, y + 1, true, .fn fun i j => .int .u8 (bif Nat.blt i y then root i else c j)⟩ ⟨1, y', true, .fn fun i _ => .int .u8 (root i)⟩ := by
  subst hy
  refine ⟨rfl, rfl, rfl, fun i j hi hj => Ent.of_eq ?_⟩
  have hi : i < y + 1 := hi
  obtain rfl : j = 0 := Nat.lt_one_iff.1 hj
  show AV.int .u8 (bif Nat.blt i y then root i else c 0) = .int .u8 (root i)
  by_cases e : i < y
  · rw [blt_t e]; rfl
  · obtain rfl : i = y := by omega
    rw [blt_f (Nat.le_refl _), h]; rfl
theorem rootc_at {root : Nat → Int} {y : Nat} (hy : y < 32) : intOfAV (atL [AV.int .u8 (intOfAV (atL (u8c root) (0 + Int.toNat (y : Int))))] 0) = root y := by
  show intOfAV (atL (u8c root) (0 + Int.toNat (y : Int))) = _
  rw [Nat.zero_add, Int.toNat_natCast]
  exact u8c_at hy
theorem crtI_ok (b : Bas) (a z sa sb : Int) (root : Nat → Int) : (crtI b a root z sa sb).okD 8 = true := by
  simp [crtI, lsI, It.okD, List.range, List.range.loop, List.getD]
theorem crtI_len (b : Bas) (a z sa sb : Int) (root : Nat → Int) : (crtI b a root z sa sb).enc.length = 132 := by
  show (It.encP 11 _ (0 + 1 + 1 + 1 + 1 + 1 + 1 + 1 + 1 + 1 + 1 + 1)).length = _
  repeat rw [It.encP_succ, List.length_append]
  rw [It.encP_zero]
  simp [nbL_len, int_len, byt_len]
theorem crtI_okB {b : Bas} {a z sa sb : Int} {root : Nat → Int} (h : byB root 32) : (crtI b a root z sa sb).okB := fun i hi => by
  have hi : i < 11 := hi
  match i, hi with
  | 0, _ | 1, _ | 2, _ | 3, _ | 4, _ | 5, _ | 6, _ | 8, _ | 9, _ | 10, _ => exact trivial
  | 7, _ => exact h
def crtC (b : Bas) (a : Int) (root : Nat → Int) (z sa sb : Int) : Int := bif crtE b a z sa sb == 0 then crtN b a root z sa sb else 0
def crtV (b : Bas) (a : Int) (root : Nat → Int) (z sa sb : Int) : AV := .tup [.int .i64 (crtC b a root z sa sb), .int .i64 (crtE b a z sa sb)]
theorem crtE_1 {b : Bas} {a z sa sb : Int} (h : validB b = false) : crtE b a z sa sb = 1 := by unfold crtE; rw [h]; rfl
theorem crtE_2 {b : Bas} {a z sa sb : Int} (h : validB b = true) (h' : elemB b.gr a = false ∨ elsB b.gr z sa sb = false) : crtE b a z sa sb = 2 := by
  have e1 : (elemB b.gr a && elsB b.gr z sa sb) = false := by rcases h' with e | e <;> simp [e]
  unfold crtE; rw [h, e1]; rfl
theorem crtE_3 {b : Bas} {a z sa sb : Int} (h : validB b = true) (h' : elemB b.gr a = true ∧ elsB b.gr z sa sb = true) : crtE b a z sa sb = 0 := by
  unfold crtE; rw [h, h'.1, h'.2]; rfl
theorem crtE_0 {b : Bas} {a z sa sb : Int} (h : crtE b a z sa sb = 0) : validB b = true ∧ elemB b.gr a = true ∧ elsB b.gr z sa sb = true := by
  cases hv : validB b with
  | false => rw [crtE_1 hv] at h; cases h
  | true =>
    cases ha : elemB b.gr a with
    | false => rw [crtE_2 hv (.inl ha)] at h; cases h
    | true =>
      cases hs : elsB b.gr z sa sb with
      | false => rw [crtE_2 hv (.inr hs)] at h; cases h
      | true => exact ⟨rfl, rfl, rfl⟩
theorem crtC_n {b : Bas} {a z sa sb : Int} {root : Nat → Int} (e : crtE b a z sa sb = 0) : crtC b a root z sa sb = crtN b a root z sa sb := by unfold crtC; rw [e]; rfl
theorem crt_1 {b : Bas} {a z sa sb : Int} {root : Nat → Int} (h : validB b = false) : AV.tup [.int .i64 0, .int .i64 1] = crtV b a root z sa sb := by
  unfold crtV crtC; rw [crtE_1 h]; rfl
theorem crt_2 {b : Bas} {a z sa sb : Int} {root : Nat → Int} (h : validB b = true) (h' : elemB b.gr a = false ∨ elsB b.gr z sa sb = false) : AV.tup [.int .i64 0, .int .i64 2] = crtV b a root z sa sb := by
  unfold crtV crtC; rw [crtE_2 h h']; rfl
theorem crt_3 {b : Bas} {a z sa sb : Int} {root : Nat → Int} (h : validB b = true) (h' : elemB b.gr a = true ∧ elsB b.gr z sa sb = true) : AV.tup [.int .i64 (crtN b a root z sa sb), .int .i64 0] = crtV b a root z sa sb := by
  unfold crtV crtC; rw [crtE_3 h h']; rfl
theorem crtN_q {b : Bas} {a z sa sb : Int} {root : Nat → Int} (h : b.gr.Ok) : 0 ≤ crtN b a root z sa sb ∧ crtN b a root z sa sb < b.gr.q := num_by (by have := h.q3; omega) 16
end Go.Sp
namespace Go.Sp
open Go Go.Am
def scaB (G : Grp) (x : Int) : Bool := decide (x ≥ 0) && decide (x < G.q)
def eqsB (b : Bas) (h a z sa sb r c : Int) : Bool :=
  (b.gr.g ^ r.toNat % b.gr.p == h ^ c.toNat % b.gr.p * sa % b.gr.p) && (a ^ r.toNat % b.gr.p == z ^ c.toNat % b.gr.p * sb % b.gr.p)
def verR (b : Bas) (h h1 h2 a : Int) (root : Nat → Int) (z sa sb r : Int) : Bool :=
  keyB b h h1 h2 && msgB b.gr a && elsB b.gr z sa sb && scaB b.gr r && (crtN b a root z sa sb != 0 && eqsB b h a z sa sb r (crtN b a root z sa sb))
theorem msg_el {G : Grp} {x : Int} (h : msgB G x = true) : elemB G x = true := by unfold msgB at h; simp only [Bool.and_eq_true] at h; exact h.2
theorem msg_bnd {G : Grp} (hG : G.Ok) {x : Int} (h : msgB G x = true) : 0 ≤ x ∧ x < G.p := by have := elem_bnd hG (msg_el h); omega
theorem el_bnd {G : Grp} (hG : G.Ok) {x : Int} (h : elemB G x = true) : 0 ≤ x ∧ x < G.p := by have := elem_bnd hG h; omega
theorem key_1 {b : Bas} {h0 k1 k2 : Int} (h : keyB b h0 k1 k2 = true) : validB b = true ∧ msgB b.gr h0 = true := by
  unfold keyB at h; simp only [Bool.and_eq_true] at h; exact ⟨h.1.1.1, h.1.1.2⟩
theorem els_1 {G : Grp} {z sa sb : Int} (h : elsB G z sa sb = true) : elemB G z = true ∧ elemB G sa = true ∧ elemB G sb = true := by
  unfold elsB at h; simp only [Bool.and_eq_true] at h; exact ⟨h.1.1, h.1.2, h.2⟩
structure SigOk (b : Bas) (h0 a z sa sb r c : Int) : Prop where
  ok : b.gr.Ok
  g : 0 ≤ b.gr.g ∧ b.gr.g < b.gr.p
  h : 0 ≤ h0 ∧ h0 < b.gr.p
  a : 0 ≤ a ∧ a < b.gr.p
  z : 0 ≤ z ∧ z < b.gr.p
  sa : 0 ≤ sa ∧ sa < b.gr.p
  sb : 0 ≤ sb ∧ sb < b.gr.p
  r : 0 ≤ r ∧ r < b.gr.q
  c : 0 ≤ c ∧ c < b.gr.q
theorem sig_ok {b : Bas} {h0 k1 k2 a z sa sb r : Int} (root : Nat → Int) (hk : keyB b h0 k1 k2 = true) (hm : msgB b.gr a = true) (he : elsB b.gr z sa sb = true) (hr : 0 ≤ r ∧ r < b.gr.q) : SigOk b h0 a z sa sb r (crtN b a root z sa sb) := by
  have G := validB_ok (key_1 hk).1
  have h1 := G.g2
  exact ⟨G, ⟨by omega, G.g1⟩, msg_bnd G (key_1 hk).2, msg_bnd G hm, el_bnd G (els_1 he).1, el_bnd G (els_1 he).2.1, el_bnd G (els_1 he).2.2, hr, crtN_q G⟩
theorem sig_okC {b : Bas} {h0 k1 k2 a z sa sb r : Int} (root : Nat → Int) (hk : keyB b h0 k1 k2 = true) (hm : msgB b.gr a = true) (he : crtE b a z sa sb = 0) (hr : 0 ≤ r ∧ r < b.gr.q) : SigOk b h0 a z sa sb r (crtC b a root z sa sb) := by
  rw [crtC_n he]
  exact sig_ok root hk hm (crtE_0 he).2.2 hr
theorem ver_0 {b : Bas} {h0 k1 k2 a z sa sb r : Int} {root : Nat → Int} (h : keyB b h0 k1 k2 = false ∨ msgB b.gr a = false ∨ elsB b.gr z sa sb = false ∨ scaB b.gr r = false) : verR b h0 k1 k2 a root z sa sb r = false := by
  unfold verR; rcases h with h | h | h | h <;> simp [h]
theorem ver_c {b : Bas} {h0 k1 k2 a z sa sb r : Int} {root : Nat → Int} (hk : keyB b h0 k1 k2 = true) (hm : msgB b.gr a = true) (hc : crtE b a z sa sb ≠ 0 ∨ crtC b a root z sa sb = 0) : verR b h0 k1 k2 a root z sa sb r = false := by
  cases he : elsB b.gr z sa sb with
  | false => exact ver_0 (.inr (.inr (.inl he)))
  | true =>
    have e := crtE_3 (key_1 hk).1 ⟨msg_el hm, he⟩
    rcases hc with h | h
    · exact absurd e h
    · rw [crtC_n e] at h
      unfold verR; simp [h]
theorem ver_e {b : Bas} {h0 k1 k2 a z sa sb r : Int} {root : Nat → Int} (hk : keyB b h0 k1 k2 = true) (hm : msgB b.gr a = true) (hr : 0 ≤ r ∧ r < b.gr.q) (he : crtE b a z sa sb = 0) (hc : crtC b a root z sa sb ≠ 0) :
    verR b h0 k1 k2 a root z sa sb r = eqsB b h0 a z sa sb r (crtC b a root z sa sb) := by
  rw [crtC_n he] at hc ⊢
  unfold verR scaB
  simp [hk, hm, (crtE_0 he).2.2, hr.1, hr.2, hc]
theorem ver_r {b : Bas} {h0 k1 k2 a z sa sb r : Int} {root : Nat → Int} (hk : keyB b h0 k1 k2 = true) (hm : msgB b.gr a = true) (he : elsB b.gr z sa sb = true) (hr : 0 ≤ r ∧ r < b.gr.q) :
    verR b h0 k1 k2 a root z sa sb r = (crtN b a root z sa sb != 0 && eqsB b h0 a z sa sb r (crtN b a root z sa sb)) := by
  unfold verR scaB
  simp [hk, hm, he, hr.1, hr.2]
theorem mod_bnd {G : Grp} (h : G.Ok) (x : Int) : 0 ≤ x % G.p ∧ x % G.p < G.p := by
  have h3 := h.p3
  exact ⟨Int.emod_nonneg _ (by omega), Int.emod_lt_of_pos _ (by omega)⟩
theorem sca_0 {G : Grp} {r : Int} (h : ¬ r ≥ 0 ∨ ¬ r < G.q) : scaB G r = false := by
  unfold scaB
  rcases h with h | h <;> simp <;> omega
end Go.Sp

namespace Go.Proofs.YtolcfdcoidpieaaGreatDoor
open Go Go.Am Go.Sp
set_option maxRecDepth 100000

theorem encU_c (L : List It) (n : Nat) (F : Nat → Nat → AV) (hn : n = L.length) (hF : ∀ i k, i < n → k < 4 → Ent [] (F i k) (atL (L.getD i (.int 0)).cells k)) (h : (lsI L).okD 8 = true) (hl : (lsI L).enc.length ≤ 16384) :
    Pure Tryz.prog gl0 140 [.agg [.int .i64 3, .int .i64 0, .nsl, .isl 4 n F]] (.tup [il .u8 (lsI L).enc, .int .i64 0]) := (encode_c (lsI L) h hl).via ⟨liU_out hn hF, trivial⟩

theorem rencU_c (L : List It) (n : Nat) (F : Nat → Nat → AV) (hn : n = L.length) (hF : ∀ i k, i < n → k < 4 → Ent [] (F i k) (atL (L.getD i (.int 0)).cells k)) (hl : (lsI L).enc.length ≤ 16384) :
    Pure Tryz.prog gl0 157 [.agg [.int .i64 3, .int .i64 0, .nsl, .isl 4 n F]] (il .u8 (lsI L).enc) := (renc_c (lsI L) (by omega)).via ⟨liU_out hn hF, trivial⟩

theorem crt_c (b : Bas) (a : Int) (root : Nat → Int) (z sa sb r : Int) (hw : b.gr.W) (hr : byB root 32) : Pure Tryz.prog gl0 209 [b.av, .int .i64 a, .agg (u8c root), .agg [.int .i64 z, .int .i64 sa, .int .i64 sb, .int .i64 r]] (crtV b a root z sa sb) := by
  have hE := elemsR_c b a z sa sb hw
  have he := fun n F hn hF => encU_c (crtJ b a root z sa sb) n F hn hF (crtI_ok b a z sa sb root) (by rw [show (lsI (crtJ b a root z sa sb)).enc.length = 132 from crtI_len b a z sa sb root]; decide)
  have ht := tagged_c "specie/coin".toUTF8 (by decide) (by decide) (fun k => (crtI b a root z sa sb).enc.getD k 0) (crtI b a root z sa sb).enc.length (by rw [crtI_len]; decide) (It.enc_by (crtI_okB hr))
  have hn := fun h1 h2 => number_c (tagI "specie/coin".toUTF8 (crtI b a root z sa sb)) b.gr.q h1 h2 (tagI_by _ _ _)
  refine pure_sk (own := ow0) Tryz.func209 (by kernel_rfl) mixed (by kernel_rfl)
    (.sc (true) 34 ([AV.agg (Bas.cells b)]) (AV.bool (validB b)) (.br (!validB b) (.out (AV.tup [Zi 0, Zi 1]) [] (crtV b a root z sa sb) []) (.sc (true) 252 ([AV.agg (Bas.cells b), AV.isl 1 4 fun (r k : Nat) => atL (List.getD [[Zi a], [Zi z], [Zi sa], [Zi sb]] (r + 0) []) k]) (AV.bool (elemB (Bas.gr b) a && elsB (Bas.gr b) z sa sb)) (.br (!(elemB b.1 a && elsB b.1 z sa sb)) (.out (AV.tup [Zi 0, Zi 2]) [] (crtV b a root z sa sb) []) (.loop ({ x : Nat // x ≤ 7 }) (fun (x : { x : Nat // x ≤ 7 }) => mkSt [4, 6, 7, 10, 49, 50, 51] [AV.own 0 6 0 0 6, AV.own 1 32 0 0 32, AV.own 2 4 0 0 4, AV.own 3 4 0 0 4, AV.osl 4 1 0 7, Zi (↑(7) : Int), Zi (↑(x.1) : Int)] [some ⟨6, 1, true, Rep.lst [Bas.cells b]⟩, some ⟨32, 1, true, Rep.lst [u8c root]⟩, some ⟨4, 1, true, Rep.lst [[Zi z, Zi sa, Zi sb, Zi r]]⟩, some ⟨4, 1, true, Rep.lst [[Zi 3, Zi 0, AV.nsl, AV.osl 5 4 0 (x.1)]]⟩, some ⟨1, 7, true, Rep.fn fun (i x : Nat) => Zi (crtL b a i)⟩, some ⟨4, x.1, true, Rep.row fun (i : Nat) => It.cells (It.int (crtL b a i))⟩]) (fun (x : { x : Nat // x ≤ 7 }) => 7 - x.1) (⟨0, Nat.zero_le 7⟩) ([4, 6, 7, 10, 49, 50, 51]) ([0, 8, 16, 176, 320, 1373]) ([AV.own 0 6 0 0 6, AV.own 1 32 0 0 32, AV.own 2 4 0 0 4, AV.own 3 4 0 0 4, AV.osl 4 1 0 7, Zi (↑(7) : Int), Zi 0]) ([some ⟨6, 1, true, Rep.lst [Bas.cells b]⟩, some ⟨32, 1, true, Rep.lst [u8c root]⟩, some ⟨4, 1, true, Rep.lst [[Zi z, Zi sa, Zi sb, Zi r]]⟩, some ⟨4, 1, true, Rep.lst [[Zi 3, Zi 0, AV.nsl, AV.nsl]]⟩, some ⟨1, 7, true, Rep.lst [[Zi (Grp.p (Bas.gr b))], [Zi (Grp.q (Bas.gr b))], [Zi (Grp.g (Bas.gr b))], [Zi (Bas.g1 b)], [Zi (Bas.g2 b)], [Zi (Bas.h b)], [Zi a]]⟩, some ⟨4, 0, true, Rep.lst []⟩]) (fun x6 => (.br (decide ((↑x6.1 : Int) < (↑(7) : Int))) (.req ((0 : Int) ≤ (↑x6.1 : Int) ∧ (↑x6.1 : Int) < (↑(7) : Int)) (.dc (true) 253 ([Zi (crtL b a (Int.toNat (↑x6.1 : Int) + 0))]) (It.av (It.int (crtL b a (Int.toNat (↑x6.1 : Int) + 0)))) (.req ((x6.1 + 1) * 64 ≤ 140737488355328) (.again (Again 0 (fun (x : { x : Nat // x ≤ 7 }) => mkSt [4, 6, 7, 10, 49, 50, 51] [AV.own 0 6 0 0 6, AV.own 1 32 0 0 32, AV.own 2 4 0 0 4, AV.own 3 4 0 0 4, AV.osl 4 1 0 7, Zi (↑(7) : Int), Zi (↑(x.1) : Int)] [some ⟨6, 1, true, Rep.lst [Bas.cells b]⟩, some ⟨32, 1, true, Rep.lst [u8c root]⟩, some ⟨4, 1, true, Rep.lst [[Zi z, Zi sa, Zi sb, Zi r]]⟩, some ⟨4, 1, true, Rep.lst [[Zi 3, Zi 0, AV.nsl, AV.osl 5 4 0 (x.1)]]⟩, some ⟨1, 7, true, Rep.fn fun (i x : Nat) => Zi (crtL b a i)⟩, some ⟨4, x.1, true, Rep.row fun (i : Nat) => It.cells (It.int (crtL b a i))⟩]) (fun (x : { x : Nat // x ≤ 7 }) => 7 - x.1) x6) ([4, 6, 7, 10, 49, 50, 51]) ([0, 1, 2, 3, 4, 78]) ([AV.own 0 6 0 0 6, AV.own 1 32 0 0 32, AV.own 2 4 0 0 4, AV.own 3 4 0 0 4, AV.osl 4 1 0 7, Zi (↑(7) : Int), Zi (IntKind.wrap IntKind.i64 ((↑x6.1 : Int) + 1))]) ([some ⟨6, 1, true, Rep.lst [Bas.cells b]⟩, some ⟨32, 1, true, Rep.lst [u8c root]⟩, some ⟨4, 1, true, Rep.lst [[Zi z, Zi sa, Zi sb, Zi r]]⟩, some ⟨4, 1, true, Rep.lst [[Zi 3, Zi 0, AV.nsl, AV.osl 5 4 0 (x6.1 + 1)]]⟩, some ⟨1, 7, true, Rep.fn fun (i j : Nat) => Zi (crtL b a i)⟩, some ⟨4, x6.1 + 1, true, Rep.cat x6.1 (Rep.row fun (i : Nat) => [Zi (It.kind (It.int (crtL b a i))), Zi (It.num (It.int (crtL b a i))), AV.isl 1 0 fun (i_1 x : Nat) => Zb (It.fb (It.int (crtL b a i)) i_1), AV.isl 4 0 (It.row (It.int (crtL b a i)))]) (Rep.lst [[Zi (It.kind (It.int (crtL b a (Int.toNat (↑x6.1 : Int) + 0)))), Zi (It.num (It.int (crtL b a (Int.toNat (↑x6.1 : Int) + 0)))), AV.isl 1 0 fun (i x : Nat) => Zb (It.fb (It.int (crtL b a (Int.toNat (↑x6.1 : Int) + 0))) i), AV.isl 4 0 (It.row (It.int (crtL b a (Int.toNat (↑x6.1 : Int) + 0))))]])⟩]))))) (.dc (true) 253 ([Zi z]) (It.av (It.int z)) (.dc (true) 253 ([Zi sa]) (It.av (It.int sa)) (.dc (true) 253 ([Zi sb]) (It.av (It.int sb)) (.req ((x6.1 + 4) * 64 ≤ 140737488355328) (.dc (true) 140 ([AV.agg [Zi 3, Zi 0, AV.nsl, AV.isl 4 (x6.1 + 4) fun (r k : Nat) => mixA (Nat.blt (r + 0) x6.1) (atL [Zi (It.kind (It.int (crtL b a (r + 0)))), Zi (It.num (It.int (crtL b a (r + 0)))), AV.isl 1 0 fun (i x : Nat) => Zb (It.fb (It.int (crtL b a (r + 0))) i), AV.isl 4 0 (It.row (It.int (crtL b a (r + 0))))] k) (atL (List.getD [[Zi 2, Zi 0, AV.isl 1 32 fun (r x : Nat) => Zb (intOfAV (atL (u8c root) (0 + (0 + r)))), AV.nsl], [Zi (It.kind (It.int z)), Zi (It.num (It.int z)), AV.isl 1 0 fun (i x : Nat) => Zb (It.fb (It.int z) i), AV.isl 4 0 (It.row (It.int z))], [Zi (It.kind (It.int sa)), Zi (It.num (It.int sa)), AV.isl 1 0 fun (i x : Nat) => Zb (It.fb (It.int sa) i), AV.isl 4 0 (It.row (It.int sa))], [Zi (It.kind (It.int sb)), Zi (It.num (It.int sb)), AV.isl 1 0 fun (i x : Nat) => Zb (It.fb (It.int sb) i), AV.isl 4 0 (It.row (It.int sb))]] (r + 0 - x6.1) []) k)]]) (AV.tup [il IntKind.u8 (It.enc (lsI (crtJ b a root z sa sb))), Zi 0]) (.ff (.sc (true) 144 ([AV.str { data := #[(115 : UInt8), (112 : UInt8), (101 : UInt8), (99 : UInt8), (105 : UInt8), (101 : UInt8), (47 : UInt8), (99 : UInt8), (111 : UInt8), (105 : UInt8), (110 : UInt8)] }, AV.isl 1 132 fun (i x : Nat) => Zb (List.getD (It.enc (lsI (crtJ b a root z sa sb))) i (0 : Int))]) (AV.tup [AV.agg (u8c (tagF (String.toUTF8 "specie/coin") (List.length (It.enc (crtI b a root z sa sb))) fun (k : Nat) => List.getD (It.enc (crtI b a root z sa sb)) k (0 : Int))), Zi 0]) (.ff (.sc (true) 145 ([AV.agg (u8c (tagF (String.toUTF8 "specie/coin") 132 fun (k : Nat) => List.getD (It.enc (crtI b a root z sa sb)) k (0 : Int))), Zi (Bas.gr b).2]) (AV.tup [Zi (numF (tagI (String.toUTF8 "specie/coin") (crtI b a root z sa sb)) (Grp.q (Bas.gr b)) 16), Zi 0]) (.out (AV.tup [Zi (numF (tagI (String.toUTF8 "specie/coin") (crtI b a root z sa sb)) (Bas.gr b).2 16), Zi 0]) [] (crtV b a root z sa sb) [])))))))))))))))))
    (by kernel_rfl) ?_
  refine k_sc ((bvalid_c b) (by assumption)) ?_
  refine k_br (fun h1 => ?_) (fun h1 => ?_)
  · have g1 := (cnd_not_t cnd_id_f) h1
    exact k_out (by exact Ent.of_eq (crt_1 g1))
  · have g1 := (cnd_not_f cnd_id_t) h1
    refine k_sc (hE) ?_
    refine k_br (fun h4 => ?_) (fun h4 => ?_)
    · have g4 := (cnd_not_t (cnd_and_f cnd_id_f cnd_id_f)) h4
      exact k_out (by exact Ent.of_eq (crt_2 g1 g4))
    · have g4 := (cnd_not_f (cnd_and_t cnd_id_t cnd_id_t)) h4
      refine k_loop (fun _ hs => hs.le (⟨.refl _, .refl _, .refl _, .refl _, .refl _, .refl _, .refl _, trivial⟩) (⟨.refl _, .refl _, .refl _, by exact ObEnt.row (by repeat' (first | exact trivial | (first | exact Ent.refl _ | exact inc_ent (by omega) | exact Ent.nil rfl | exact Ent.of_eq (congrArg (AV.osl _ _ _) (by first | omega | (dsimp only; omega))) | exact Ent.of_eq (congrArg (AV.int _) (by first | omega | (dsimp only; omega)))) | refine And.intro ?_ ?_)), crtL_ob, .zero, trivial⟩)) (fun x6 => ?_)
      try (have q6 := x6.2; dsimp only at q6)
      refine k_br (fun h7 => ?_) (fun h7 => ?_)
      · have g7 := cnd_dec_t h7
        refine k_req (by omega) ?_
        refine k_dc (numI_c (crtL b a (Int.toNat (↑x6.1 : Int) + 0))) ?_
        refine k_req (by omega) ?_
        exact k_again (⟨x6.1 + 1, by omega⟩) (fun _ hs => hs.le (⟨.refl _, .refl _, .refl _, .refl _, .refl _, .refl _, inc_ent (by omega), trivial⟩) (⟨.refl _, .refl _, .refl _, .refl _, .refl _, .pushRow rfl, trivial⟩)) (by dsimp only; omega)
      · have g7 := cnd_dec_f h7
        refine k_dc (numI_c (z)) ?_
        refine k_dc (numI_c (sa)) ?_
        refine k_dc (numI_c (sb)) ?_
        refine k_req (by omega) ?_
        refine k_dc (he (x6.1 + 4) (fun (r k : Nat) => mixA (Nat.blt (r + 0) x6.1) (atL [Zi (It.kind (It.int (crtL b a (r + 0)))), Zi (It.num (It.int (crtL b a (r + 0)))), AV.isl (1) (0) fun (i x : Nat) => Zb (It.fb (It.int (crtL b a (r + 0))) i), AV.isl (4) (0) (It.row (It.int (crtL b a (r + 0))))] k) (atL (List.getD [[Zi 2, Zi 0, AV.isl (1) (32) fun (r x : Nat) => Zb (intOfAV (atL (u8c root) (0 + (0 + r)))), AV.nsl], [Zi (It.kind (It.int z)), Zi (It.num (It.int z)), AV.isl (1) (0) fun (i x : Nat) => Zb (It.fb (It.int z) i), AV.isl (4) (0) (It.row (It.int z))], [Zi (It.kind (It.int sa)), Zi (It.num (It.int sa)), AV.isl (1) (0) fun (i x : Nat) => Zb (It.fb (It.int sa) i), AV.isl (4) (0) (It.row (It.int sa))], [Zi (It.kind (It.int sb)), Zi (It.num (It.int sb)), AV.isl (1) (0) fun (i x : Nat) => Zb (It.fb (It.int sb) i), AV.isl (4) (0) (It.row (It.int sb))]] (r + 0 - x6.1) []) k)) (by (show _ = 11; omega)) (by exact fun i k hi _ => crtF_ok (by omega) hi)) ?_
        refine k_ff ?_
        refine k_sc (ht) ?_
        refine k_ff ?_
        refine k_sc (hn (by exact (validB_q g1).1) (by exact (validB_q g1).2)) ?_
        exact k_out (by exact Ent.of_eq (crt_3 g1 g4))

end Go.Proofs.YtolcfdcoidpieaaGreatDoor

namespace Go.Proofs.YtolcfdcoidpieaaGreatDoor
open Go Go.Am Go.Sp
set_option maxRecDepth 100000

theorem rcrt_c (b : Bas) (a : Int) (root : Nat → Int) (z sa sb r : Int) (hr : byB root 32) (hq : 0 < b.gr.q) (hq' : b.gr.q < 2305843009213693952) : Pure Tryz.prog gl0 190 [b.av, .int .i64 a, .agg (u8c root), .agg [.int .i64 z, .int .i64 sa, .int .i64 sb, .int .i64 r]] (.int .i64 (crtN b a root z sa sb)) := by
  have he := fun n F hn hF => rencU_c (crtJ b a root z sa sb) n F hn hF (by rw [show (lsI (crtJ b a root z sa sb)).enc.length = 132 from crtI_len b a z sa sb root]; decide)
  have ht := rtagged_c "specie/coin".toUTF8 (by decide) (fun k => (crtI b a root z sa sb).enc.getD k 0) (crtI b a root z sa sb).enc.length (by rw [crtI_len]; decide) (It.enc_by (crtI_okB hr))
  have hn := rnumber_c (tagI "specie/coin".toUTF8 (crtI b a root z sa sb)) b.gr.q hq hq' (tagI_by _ _ _)
  refine pure_sk (own := ow0) Tryz.func190 (by kernel_rfl) mixed (by kernel_rfl)
    (.dc (true) 237 ([AV.agg (Bas.cells b)]) (AV.isl 1 6 fun (i x : Nat) => Zi (crtL b (0 : Int) i)) (.loop ({ x : Nat // x ≤ 6 }) (fun (x : { x : Nat // x ≤ 6 }) => mkSt [1, 4, 6, 7, 9, 10, 11] [Zi a, AV.own 0 6 0 0 6, AV.own 1 32 0 0 32, AV.own 2 4 0 0 4, AV.isl 1 6 fun (i x : Nat) => Zi (crtL b (0 : Int) i), AV.own 3 4 0 0 4, Zi (↑(x.1) : Int)] [some ⟨6, 1, true, Rep.lst [Bas.cells b]⟩, some ⟨32, 1, true, Rep.lst [u8c root]⟩, some ⟨4, 1, true, Rep.lst [[Zi z, Zi sa, Zi sb, Zi r]]⟩, some ⟨4, 1, true, Rep.lst [[Zi 3, Zi 0, AV.nsl, AV.osl 4 4 0 (x.1)]]⟩, some ⟨4, x.1, true, Rep.row fun (i : Nat) => It.cells (It.int (crtL b (0 : Int) i))⟩]) (fun (x : { x : Nat // x ≤ 6 }) => 6 - x.1) (⟨0, Nat.zero_le 6⟩) ([1, 4, 6, 7, 9, 10, 11]) ([0, 8, 16, 64, 1116]) ([Zi a, AV.own 0 6 0 0 6, AV.own 1 32 0 0 32, AV.own 2 4 0 0 4, AV.isl 1 6 fun (i x : Nat) => Zi (crtL b (0 : Int) i), AV.own 3 4 0 0 4, Zi 0]) ([some ⟨6, 1, true, Rep.lst [Bas.cells b]⟩, some ⟨32, 1, true, Rep.lst [u8c root]⟩, some ⟨4, 1, true, Rep.lst [[Zi z, Zi sa, Zi sb, Zi r]]⟩, some ⟨4, 1, true, Rep.lst [[Zi 3, Zi 0, AV.nsl, AV.nsl]]⟩, some ⟨4, 0, true, Rep.lst []⟩]) (fun x1 => (.br (decide ((↑x1.1 : Int) < (↑(6) : Int))) (.req ((0 : Int) ≤ (↑x1.1 : Int) ∧ (↑x1.1 : Int) < (↑(6) : Int)) (.dc (true) 238 ([Zi (crtL b (0 : Int) (Int.toNat (↑x1.1 : Int)))]) (It.av (It.int (crtL b (0 : Int) (Int.toNat (↑x1.1 : Int))))) (.req ((x1.1 + 1) * 64 ≤ 140737488355328) (.again (Again 0 (fun (x : { x : Nat // x ≤ 6 }) => mkSt [1, 4, 6, 7, 9, 10, 11] [Zi a, AV.own 0 6 0 0 6, AV.own 1 32 0 0 32, AV.own 2 4 0 0 4, AV.isl 1 6 fun (i x : Nat) => Zi (crtL b (0 : Int) i), AV.own 3 4 0 0 4, Zi (↑(x.1) : Int)] [some ⟨6, 1, true, Rep.lst [Bas.cells b]⟩, some ⟨32, 1, true, Rep.lst [u8c root]⟩, some ⟨4, 1, true, Rep.lst [[Zi z, Zi sa, Zi sb, Zi r]]⟩, some ⟨4, 1, true, Rep.lst [[Zi 3, Zi 0, AV.nsl, AV.osl 4 4 0 (x.1)]]⟩, some ⟨4, x.1, true, Rep.row fun (i : Nat) => It.cells (It.int (crtL b (0 : Int) i))⟩]) (fun (x : { x : Nat // x ≤ 6 }) => 6 - x.1) x1) ([1, 4, 6, 7, 9, 10, 11]) ([0, 1, 2, 3, 101]) ([Zi a, AV.own 0 6 0 0 6, AV.own 1 32 0 0 32, AV.own 2 4 0 0 4, AV.isl 1 6 fun (i x : Nat) => Zi (crtL b (0 : Int) i), AV.own 3 4 0 0 4, Zi (IntKind.wrap IntKind.i64 ((↑x1.1 : Int) + 1))]) ([some ⟨6, 1, true, Rep.lst [Bas.cells b]⟩, some ⟨32, 1, true, Rep.lst [u8c root]⟩, some ⟨4, 1, true, Rep.lst [[Zi z, Zi sa, Zi sb, Zi r]]⟩, some ⟨4, 1, true, Rep.lst [[Zi 3, Zi 0, AV.nsl, AV.osl 4 4 0 (x1.1 + 1)]]⟩, some ⟨4, x1.1 + 1, true, Rep.cat x1.1 (Rep.row fun (i : Nat) => [Zi (It.kind (It.int (crtL b (0 : Int) i))), Zi (It.num (It.int (crtL b (0 : Int) i))), AV.isl 1 0 fun (i_1 x : Nat) => Zb (It.fb (It.int (crtL b (0 : Int) i)) i_1), AV.isl 4 0 (It.row (It.int (crtL b (0 : Int) i)))]) (Rep.lst [[Zi (It.kind (It.int (crtL b (0 : Int) (Int.toNat (↑x1.1 : Int))))), Zi (It.num (It.int (crtL b (0 : Int) (Int.toNat (↑x1.1 : Int))))), AV.isl 1 0 fun (i x : Nat) => Zb (It.fb (It.int (crtL b (0 : Int) (Int.toNat (↑x1.1 : Int)))) i), AV.isl 4 0 (It.row (It.int (crtL b (0 : Int) (Int.toNat (↑x1.1 : Int)))))]])⟩]))))) (.loop ({ x : Nat // x ≤ 32 }) (fun (x : { x : Nat // x ≤ 32 }) => mkSt [1, 4, 6, 7, 10, 12, 13] [Zi a, AV.own 0 6 0 0 6, AV.own 1 32 0 0 32, AV.own 2 4 0 0 4, AV.own 3 4 0 0 4, AV.own 4 4 0 0 4, Zi (↑(x.1) : Int)] [some ⟨6, 1, true, Rep.lst [Bas.cells b]⟩, some ⟨32, 1, true, Rep.lst [u8c root]⟩, some ⟨4, 1, true, Rep.lst [[Zi z, Zi sa, Zi sb, Zi r]]⟩, some ⟨4, 1, true, Rep.lst [[Zi 3, Zi 0, AV.nsl, AV.osl 5 4 0 x1.1]]⟩, some ⟨4, 1, true, Rep.lst [[Zi 2, Zi 0, AV.osl 6 1 0 (x.1), AV.nsl]]⟩, some ⟨4, x1.1, true, Rep.row fun (i : Nat) => [Zi (It.kind (It.int (crtL b (0 : Int) i))), Zi (It.num (It.int (crtL b (0 : Int) i))), AV.isl 1 0 fun (i_1 x : Nat) => Zb (It.fb (It.int (crtL b (0 : Int) i)) i_1), AV.isl 4 0 (It.row (It.int (crtL b (0 : Int) i)))]⟩, some ⟨1, x.1, true, Rep.fn fun (i x : Nat) => Zb (root i)⟩]) (fun (x : { x : Nat // x ≤ 32 }) => 32 - x.1) (⟨0, Nat.zero_le 32⟩) ([1, 4, 6, 7, 10, 12, 13]) ([0, 1, 2, 3, 45, 4, 331]) ([Zi a, AV.own 0 6 0 0 6, AV.own 1 32 0 0 32, AV.own 2 4 0 0 4, AV.own 3 4 0 0 4, AV.own 4 4 0 0 4, Zi 0]) ([some ⟨6, 1, true, Rep.lst [Bas.cells b]⟩, some ⟨32, 1, true, Rep.lst [u8c root]⟩, some ⟨4, 1, true, Rep.lst [[Zi z, Zi sa, Zi sb, Zi r]]⟩, some ⟨4, 1, true, Rep.lst [[Zi 3, Zi 0, AV.nsl, AV.osl 5 4 0 x1.1]]⟩, some ⟨4, 1, true, Rep.lst [[Zi 2, Zi 0, AV.nsl, AV.nsl]]⟩, some ⟨4, x1.1, true, Rep.row fun (i : Nat) => [Zi (It.kind (It.int (crtL b (0 : Int) i))), Zi (It.num (It.int (crtL b (0 : Int) i))), AV.isl 1 0 fun (i_1 x : Nat) => Zb (It.fb (It.int (crtL b (0 : Int) i)) i_1), AV.isl 4 0 (It.row (It.int (crtL b (0 : Int) i)))]⟩, some ⟨1, 0, true, Rep.lst []⟩]) (fun x7 => (.br (decide ((↑x7.1 : Int) < 32)) (.req ((0 : Int) ≤ (↑x7.1 : Int) ∧ (↑x7.1 : Int) < (↑(32) : Int)) (.req ((x7.1 + 1) * 1 ≤ 140737488355328) (.again (Again 0 (fun (x : { x : Nat // x ≤ 32 }) => mkSt [1, 4, 6, 7, 10, 12, 13] [Zi a, AV.own 0 6 0 0 6, AV.own 1 32 0 0 32, AV.own 2 4 0 0 4, AV.own 3 4 0 0 4, AV.own 4 4 0 0 4, Zi (↑(x.1) : Int)] [some ⟨6, 1, true, Rep.lst [Bas.cells b]⟩, some ⟨32, 1, true, Rep.lst [u8c root]⟩, some ⟨4, 1, true, Rep.lst [[Zi z, Zi sa, Zi sb, Zi r]]⟩, some ⟨4, 1, true, Rep.lst [[Zi 3, Zi 0, AV.nsl, AV.osl 5 4 0 x1.1]]⟩, some ⟨4, 1, true, Rep.lst [[Zi 2, Zi 0, AV.osl 6 1 0 (x.1), AV.nsl]]⟩, some ⟨4, x1.1, true, Rep.row fun (i : Nat) => [Zi (It.kind (It.int (crtL b (0 : Int) i))), Zi (It.num (It.int (crtL b (0 : Int) i))), AV.isl 1 0 fun (i_1 x : Nat) => Zb (It.fb (It.int (crtL b (0 : Int) i)) i_1), AV.isl 4 0 (It.row (It.int (crtL b (0 : Int) i)))]⟩, some ⟨1, x.1, true, Rep.fn fun (i x : Nat) => Zb (root i)⟩]) (fun (x : { x : Nat // x ≤ 32 }) => 32 - x.1) x7) ([1, 4, 6, 7, 10, 12, 13]) ([0, 1, 2, 3, 4, 5, 71]) ([Zi a, AV.own 0 6 0 0 6, AV.own 1 32 0 0 32, AV.own 2 4 0 0 4, AV.own 3 4 0 0 4, AV.own 4 4 0 0 4, Zi (IntKind.wrap IntKind.i64 ((↑x7.1 : Int) + 1))]) ([some ⟨6, 1, true, Rep.lst [Bas.cells b]⟩, some ⟨32, 1, true, Rep.lst [u8c root]⟩, some ⟨4, 1, true, Rep.lst [[Zi z, Zi sa, Zi sb, Zi r]]⟩, some ⟨4, 1, true, Rep.lst [[Zi 3, Zi 0, AV.nsl, AV.osl 5 4 0 x1.1]]⟩, some ⟨4, 1, true, Rep.lst [[Zi 2, Zi 0, AV.osl 6 1 0 (x7.1 + 1), AV.nsl]]⟩, some ⟨4, x1.1, true, Rep.row fun (i : Nat) => [Zi (It.kind (It.int (crtL b (0 : Int) i))), Zi (It.num (It.int (crtL b (0 : Int) i))), AV.isl 1 0 fun (i_1 x : Nat) => Zb (It.fb (It.int (crtL b (0 : Int) i)) i_1), AV.isl 4 0 (It.row (It.int (crtL b (0 : Int) i)))]⟩, some ⟨1, x7.1 + 1, true, Rep.fn fun (i j : Nat) => Zb (bif Nat.blt i x7.1 then root i else intOfAV (atL [Zb (intOfAV (Rep.at (Ob.f (Ob.seen ⟨32, 1, true, Rep.lst [u8c root]⟩)) 0 (0 + Int.toNat (↑(x7.1) : Int))))] j))⟩])))) (.dc (true) 238 ([Zi a]) (It.av (It.int a)) (.dc (true) 238 ([Zi z]) (It.av (It.int z)) (.dc (true) 238 ([Zi sa]) (It.av (It.int sa)) (.dc (true) 238 ([Zi sb]) (It.av (It.int sb)) (.req ((x1.1 + 5) * 64 ≤ 140737488355328) (.dc (true) 157 ([AV.agg [Zi 3, Zi 0, AV.nsl, AV.isl 4 (x1.1 + 5) fun (r k : Nat) => mixA (Nat.blt (r + 0) x1.1) (atL [Zi (It.kind (It.int (crtL b (0 : Int) (r + 0)))), Zi (It.num (It.int (crtL b (0 : Int) (r + 0)))), AV.isl 1 0 fun (i x : Nat) => Zb (It.fb (It.int (crtL b (0 : Int) (r + 0))) i), AV.isl 4 0 (It.row (It.int (crtL b (0 : Int) (r + 0))))] k) (atL (List.getD [[Zi (It.kind (It.int a)), Zi (It.num (It.int a)), AV.isl 1 0 fun (i x : Nat) => Zb (It.fb (It.int a) i), AV.isl 4 0 (It.row (It.int a))], [Zi 2, Zi 0, AV.isl 1 x7.1 fun (r k : Nat) => Zb (root (r + 0)), AV.nsl], [Zi (It.kind (It.int z)), Zi (It.num (It.int z)), AV.isl 1 0 fun (i x : Nat) => Zb (It.fb (It.int z) i), AV.isl 4 0 (It.row (It.int z))], [Zi (It.kind (It.int sa)), Zi (It.num (It.int sa)), AV.isl 1 0 fun (i x : Nat) => Zb (It.fb (It.int sa) i), AV.isl 4 0 (It.row (It.int sa))], [Zi (It.kind (It.int sb)), Zi (It.num (It.int sb)), AV.isl 1 0 fun (i x : Nat) => Zb (It.fb (It.int sb) i), AV.isl 4 0 (It.row (It.int sb))]] (r + 0 - x1.1) []) k)]]) (il IntKind.u8 (It.enc (lsI (crtJ b a root z sa sb)))) (.sc (true) 156 ([AV.str { data := #[(115 : UInt8), (112 : UInt8), (101 : UInt8), (99 : UInt8), (105 : UInt8), (101 : UInt8), (47 : UInt8), (99 : UInt8), (111 : UInt8), (105 : UInt8), (110 : UInt8)] }, AV.isl 1 132 fun (i x : Nat) => Zb (List.getD (It.enc (lsI (crtJ b a root z sa sb))) i (0 : Int))]) (AV.agg (u8c (tagF (String.toUTF8 "specie/coin") (List.length (It.enc (crtI b a root z sa sb))) fun (k : Nat) => List.getD (It.enc (crtI b a root z sa sb)) k (0 : Int)))) (.sc (true) 155 ([AV.agg (u8c (tagF (String.toUTF8 "specie/coin") 132 fun (k : Nat) => List.getD (It.enc (crtI b a root z sa sb)) k (0 : Int))), Zi (Bas.gr b).2]) (Zi (numF (tagI (String.toUTF8 "specie/coin") (crtI b a root z sa sb)) (Grp.q (Bas.gr b)) 16)) (.out (Zi (numF (tagI (String.toUTF8 "specie/coin") (crtI b a root z sa sb)) (Bas.gr b).2 16)) [] (Zi (crtN b a root z sa sb)) []))))))))))))))))
    (by kernel_rfl) ?_
  refine k_dc ((rNumbers_c b)) ?_
  refine k_loop (fun _ hs => hs.le (⟨.refl _, .refl _, .refl _, .refl _, .refl _, .refl _, .refl _, trivial⟩) (by repeat' (first | exact trivial | (first | exact ObEnt.refl _ | exact ObEnt.junk | exact ObEnt.zero | exact ObEnt.push rfl rfl | exact ObEnt.pushRow rfl | exact ObEnt.len (by omega) | exact ObEnt.row (by repeat' (first | exact trivial | (first | exact Ent.refl _ | exact inc_ent (by omega) | exact Ent.nil rfl | exact Ent.of_eq (congrArg (AV.osl _ _ _) (by first | omega | (dsimp only; omega))) | exact Ent.of_eq (congrArg (AV.int _) (by first | omega | (dsimp only; omega)))) | refine And.intro ?_ ?_))) | refine And.intro ?_ ?_))) (fun x1 => ?_)
  try (have q1 := x1.2; dsimp only at q1)
  refine k_br (fun h2 => ?_) (fun h2 => ?_)
  · have g2 := cnd_dec_t h2
    refine k_req (by omega) ?_
    refine k_dc (rnumI_c (crtL b (0 : Int) (Int.toNat (↑x1.1 : Int)))) ?_
    refine k_req (by omega) ?_
    exact k_again (⟨x1.1 + 1, by omega⟩) (fun _ hs => hs.le (⟨.refl _, .refl _, .refl _, .refl _, .refl _, .refl _, inc_ent (by omega), trivial⟩) (⟨.refl _, .refl _, .refl _, .refl _, .pushRow rfl, trivial⟩)) (by dsimp only; omega)
  · have g2 := cnd_dec_f h2
    refine k_loop (fun _ hs => hs.le (⟨.refl _, .refl _, .refl _, .refl _, .refl _, .refl _, .refl _, trivial⟩) (by repeat' (first | exact trivial | (first | exact ObEnt.refl _ | exact ObEnt.junk | exact ObEnt.zero | exact ObEnt.push rfl rfl | exact ObEnt.pushRow rfl | exact ObEnt.len (by omega) | exact ObEnt.row (by repeat' (first | exact trivial | (first | exact Ent.refl _ | exact inc_ent (by omega) | exact Ent.nil rfl | exact Ent.of_eq (congrArg (AV.osl _ _ _) (by first | omega | (dsimp only; omega))) | exact Ent.of_eq (congrArg (AV.int _) (by first | omega | (dsimp only; omega)))) | refine And.intro ?_ ?_))) | refine And.intro ?_ ?_))) (fun x7 => ?_)
    try (have q7 := x7.2; dsimp only at q7)
    refine k_br (fun h8 => ?_) (fun h8 => ?_)
    · have g8 := cnd_dec_t h8
      refine k_req (by omega) ?_
      refine k_req (by omega) ?_
      exact k_again (⟨x7.1 + 1, by omega⟩) (fun _ hs => hs.le (⟨.refl _, .refl _, .refl _, .refl _, .refl _, .refl _, inc_ent (by omega), trivial⟩) (⟨.refl _, .refl _, .refl _, .refl _, .refl _, .refl _, root_push rfl (rootc_at (by omega)), trivial⟩)) (by dsimp only; omega)
    · have g8 := cnd_dec_f h8
      refine k_dc (rnumI_c (a)) ?_
      refine k_dc (rnumI_c (z)) ?_
      refine k_dc (rnumI_c (sa)) ?_
      refine k_dc (rnumI_c (sb)) ?_
      refine k_req (by omega) ?_
      refine k_dc (he (x1.1 + 5) (fun (r k : Nat) => mixA (Nat.blt (r + 0) x1.1) (atL [Zi (It.kind (It.int (crtL b (0 : Int) (r + 0)))), Zi (It.num (It.int (crtL b (0 : Int) (r + 0)))), AV.isl (1) (0) fun (i x : Nat) => Zb (It.fb (It.int (crtL b (0 : Int) (r + 0))) i), AV.isl (4) (0) (It.row (It.int (crtL b (0 : Int) (r + 0))))] k) (atL (List.getD [[Zi (It.kind (It.int a)), Zi (It.num (It.int a)), AV.isl (1) (0) fun (i x : Nat) => Zb (It.fb (It.int a) i), AV.isl (4) (0) (It.row (It.int a))], [Zi 2, Zi 0, AV.isl (1) x7.1 fun (r k : Nat) => Zb (root (r + 0)), AV.nsl], [Zi (It.kind (It.int z)), Zi (It.num (It.int z)), AV.isl (1) (0) fun (i x : Nat) => Zb (It.fb (It.int z) i), AV.isl (4) (0) (It.row (It.int z))], [Zi (It.kind (It.int sa)), Zi (It.num (It.int sa)), AV.isl (1) (0) fun (i x : Nat) => Zb (It.fb (It.int sa) i), AV.isl (4) (0) (It.row (It.int sa))], [Zi (It.kind (It.int sb)), Zi (It.num (It.int sb)), AV.isl (1) (0) fun (i x : Nat) => Zb (It.fb (It.int sb) i), AV.isl (4) (0) (It.row (It.int sb))]] (r + 0 - x1.1) []) k)) (by (show _ = 11; omega)) (by exact fun i k hi _ => rcrtF_ok (by omega) (by omega) hi)) ?_
      refine k_sc (ht) ?_
      refine k_sc (hn) ?_
      exact k_out (Ent.of_eq rfl)

theorem verR_c (b : Bas) (k0 k1 k2 a : Int) (root : Nat → Int) (z sa sb r : Int) (hw : b.gr.W) (hr : byB root 32) :
    Pure Tryz.prog gl0 139 [b.av, .agg [.int .i64 k0, .int .i64 k1, .int .i64 k2], .int .i64 a, .agg (u8c root), .agg [.int .i64 z, .int .i64 sa, .int .i64 sb, .int .i64 r]] (.bool (verR b k0 k1 k2 a root z sa sb r)) := by
  have hv := validR_c b k0 k1 k2 hw
  have hm := messageR_c b a hw
  have hs := scalR_c b r
  have hc := crt_c b a root z sa sb r hw hr
  have K : (keyB b k0 k1 k2 = true ∧ msgB b.gr a = true) ∧ 0 ≤ r ∧ r < b.gr.q → crtE b a z sa sb = 0 ∧ ¬ crtC b a root z sa sb = 0 → SigOk b k0 a z sa sb r (crtC b a root z sa sb) := fun u v => sig_okC root u.1.1 u.1.2 v.1 u.2
  refine pure_sk (own := ow0) Tryz.func139 (by kernel_rfl) mixed (by kernel_rfl)
    (let y0 : AV := (AV.bool (verR b k0 k1 k2 a root z sa sb r)); (.sc (true) 206 ([AV.agg (Bas.cells b), AV.agg [Zi k0, Zi k1, Zi k2]]) (AV.bool (keyB b k0 k1 k2)) (.sc ((!keyB b k0 k1 k2) == false) 207 ([AV.agg (Bas.cells b), Zi a]) (AV.bool (msgB (Bas.gr b) a)) (.sc ((!keyB b k0 k1 k2 || !msgB b.1 a) == false) 208 ([AV.agg (Bas.cells b), Zi r]) (AV.bool (decide (r ≥ 0) && decide (r < Grp.q (Bas.gr b)))) (.br (!keyB b k0 k1 k2 || !msgB b.1 a || !(decide (r ≥ 0) && decide (r < (Bas.gr b).2))) (.out (AV.bool false) [] y0 []) (.sc (true) 209 ([AV.agg (Bas.cells b), Zi a, AV.agg (u8c root), AV.agg [Zi z, Zi sa, Zi sb, Zi r]]) (crtV b a root z sa sb) (.br (crtE b a z sa sb != 0 || crtC b a root z sa sb == 0) (.out (AV.bool false) [] y0 []) (.sc (true) 210 ([AV.agg (Bas.cells b), Zi (Bas.gr b).3, Zi r]) (Zi ((Bas.gr b).3 ^ Int.toNat r % Grp.p (Bas.gr b))) (.sc (true) 211 ([AV.agg (Bas.cells b), Zi k0, Zi (crtC b a root z sa sb), Zi sa, Zi 1]) (Zi (k0 ^ Int.toNat (crtC b a root z sa sb) % Grp.p (Bas.gr b) * sa % Grp.p (Bas.gr b))) (.sc (((Bas.gr b).3 ^ Int.toNat r % (Bas.gr b).1 == k0 ^ Int.toNat (crtC b a root z sa sb) % (Bas.gr b).1 * sa % (Bas.gr b).1) == true) 210 ([AV.agg (Bas.cells b), Zi a, Zi r]) (Zi (a ^ Int.toNat r % Grp.p (Bas.gr b))) (.sc (((Bas.gr b).3 ^ Int.toNat r % (Bas.gr b).1 == k0 ^ Int.toNat (crtC b a root z sa sb) % (Bas.gr b).1 * sa % (Bas.gr b).1) == true) 211 ([AV.agg (Bas.cells b), Zi z, Zi (crtC b a root z sa sb), Zi sb, Zi 1]) (Zi (z ^ Int.toNat (crtC b a root z sa sb) % Grp.p (Bas.gr b) * sb % Grp.p (Bas.gr b))) (.out (AV.bool ((Bas.gr b).3 ^ Int.toNat r % (Bas.gr b).1 == k0 ^ Int.toNat (crtC b a root z sa sb) % (Bas.gr b).1 * sa % (Bas.gr b).1 && a ^ Int.toNat r % (Bas.gr b).1 == z ^ Int.toNat (crtC b a root z sa sb) % (Bas.gr b).1 * sb % (Bas.gr b).1)) [] y0 []))))))))))))
    (by kernel_rfl) ?_
  refine k_sc (hv) ?_
  refine k_scg (fun h1 => hm) ?_
  refine k_scg (fun h2 => hs) ?_
  refine k_br (fun h3 => ?_) (fun h3 => ?_)
  · have g3 := (cnd_or_t (cnd_or_t (cnd_not_t cnd_id_f) (cnd_not_t cnd_id_f)) (cnd_not_t (cnd_and_f cnd_dec_f cnd_dec_f))) h3
    exact k_out (Ent.of_eq (congrArg _ (by rcases g3 with (h | h) | h; (· exact (ver_0 (.inl h)).symm); (· exact (ver_0 (.inr (.inl h))).symm); (· exact (ver_0 (.inr (.inr (.inr (sca_0 h))))).symm))))
  · have g3 := (cnd_or_f (cnd_or_f (cnd_not_f cnd_id_t) (cnd_not_f cnd_id_t)) (cnd_not_f (cnd_and_t cnd_dec_t cnd_dec_t))) h3
    refine k_sc (hc) ?_
    refine k_br (fun h6 => ?_) (fun h6 => ?_)
    · have g6 := (cnd_or_t cnd_bne_t cnd_beq_t) h6
      exact k_out (Ent.of_eq (congrArg _ (ver_c g3.1.1 g3.1.2 g6).symm))
    · have g6 := (cnd_or_f cnd_bne_f cnd_beq_f) h6
      refine k_sc ((powR_c b) ((Bas.gr b).3) (r) (by cases K g3 g6; assumption) (by cases K g3 g6; assumption) (by cases K g3 g6; assumption)) ?_
      refine k_sc ((prodR_c b) (k0) (crtC b a root z sa sb) (sa) (by cases K g3 g6; assumption) (by cases K g3 g6; assumption) (by cases K g3 g6; assumption) (by cases K g3 g6; assumption)) ?_
      refine k_scg (fun h10 => (powR_c b) (a) (r) (by cases K g3 g6; assumption) (by cases K g3 g6; assumption) (by cases K g3 g6; assumption)) ?_
      refine k_scg (fun h11 => (prodR_c b) (z) (crtC b a root z sa sb) (sb) (by cases K g3 g6; assumption) (by cases K g3 g6; assumption) (by cases K g3 g6; assumption) (by cases K g3 g6; assumption)) ?_
      exact k_out (Ent.of_eq (congrArg _ (ver_e g3.1.1 g3.1.2 g3.2 g6.1 g6.2).symm))

theorem rverR_c (b : Bas) (k0 k1 k2 a : Int) (root : Nat → Int) (z sa sb r : Int) (hw : b.gr.W) (hr : byB root 32) :
    Pure Tryz.prog gl0 118 [b.av, .agg [.int .i64 k0, .int .i64 k1, .int .i64 k2], .int .i64 a, .agg (u8c root), .agg [.int .i64 z, .int .i64 sa, .int .i64 sb, .int .i64 r]] (.bool (verR b k0 k1 k2 a root z sa sb r)) := by
  have hv := rkey_c b k0 k1 k2 hw
  have hm := rmsg_c b.gr a
  have he := relems_c b.gr z sa sb r
  have hs := rscalR_c b.gr r
  have hc := rcrt_c b a root z sa sb r hr
  have K : ((keyB b k0 k1 k2 = true ∧ msgB b.gr a = true) ∧ elsB b.gr z sa sb = true) ∧ 0 ≤ r ∧ r < b.gr.q → SigOk b k0 a z sa sb r (crtN b a root z sa sb) := fun u => sig_ok root u.1.1.1 u.1.1.2 u.1.2 u.2
  refine pure_sk (own := ow0) Tryz.func118 (by kernel_rfl) mixed (by kernel_rfl)
    (let y0 : List AV := [Zi (Bas.gr b).1, Zi (Bas.gr b).2, Zi (Bas.gr b).3]; let y1 : AV := (AV.bool (verR b k0 k1 k2 a root z sa sb r)); (.sc (true) 183 ([AV.agg (Bas.cells b), AV.agg [Zi k0, Zi k1, Zi k2]]) (AV.bool (keyB b k0 k1 k2)) (.sc ((!keyB b k0 k1 k2) == false) 187 ([AV.agg y0, Zi a]) (AV.bool (msgB (Bas.gr b) a)) (.sc ((!keyB b k0 k1 k2 || !msgB b.1 a) == false) 188 ([AV.agg y0, AV.agg [Zi z, Zi sa, Zi sb, Zi r]]) (AV.bool (elsB (Bas.gr b) z sa sb)) (.sc ((!keyB b k0 k1 k2 || !msgB b.1 a || !elsB b.1 z sa sb) == false) 189 ([AV.agg y0, Zi r]) (AV.bool (decide (r ≥ 0) && decide (r < Grp.q (Bas.gr b)))) (.br (!keyB b k0 k1 k2 || !msgB b.1 a || !elsB b.1 z sa sb || !(decide (r ≥ 0) && decide (r < (Bas.gr b).2))) (.out (AV.bool false) [] y1 []) (.sc (true) 190 ([AV.agg (Bas.cells b), Zi a, AV.agg (u8c root), AV.agg [Zi z, Zi sa, Zi sb, Zi r]]) (Zi (crtN b a root z sa sb)) (.sc ((crtN b a root z sa sb != 0) == true) 191 ([AV.agg y0, Zi (Bas.gr b).3, Zi r]) (Zi ((Bas.gr b).3 ^ Int.toNat r % Grp.p (Bas.gr b))) (.sc ((crtN b a root z sa sb != 0) == true) 191 ([AV.agg y0, Zi k0, Zi (crtN b a root z sa sb)]) (Zi (k0 ^ Int.toNat (crtN b a root z sa sb) % Grp.p (Bas.gr b))) (.sc ((crtN b a root z sa sb != 0) == true) 192 ([AV.agg y0, Zi (k0 ^ Int.toNat (crtN b a root z sa sb) % (Bas.gr b).1), Zi sa]) (Zi (k0 ^ Int.toNat (crtN b a root z sa sb) % (Bas.gr b).1 * sa % Grp.p (Bas.gr b))) (.sc ((crtN b a root z sa sb != 0 && (Bas.gr b).3 ^ Int.toNat r % (Bas.gr b).1 == k0 ^ Int.toNat (crtN b a root z sa sb) % (Bas.gr b).1 * sa % (Bas.gr b).1) == true) 191 ([AV.agg y0, Zi a, Zi r]) (Zi (a ^ Int.toNat r % Grp.p (Bas.gr b))) (.sc ((crtN b a root z sa sb != 0 && (Bas.gr b).3 ^ Int.toNat r % (Bas.gr b).1 == k0 ^ Int.toNat (crtN b a root z sa sb) % (Bas.gr b).1 * sa % (Bas.gr b).1) == true) 191 ([AV.agg y0, Zi z, Zi (crtN b a root z sa sb)]) (Zi (z ^ Int.toNat (crtN b a root z sa sb) % Grp.p (Bas.gr b))) (.sc ((crtN b a root z sa sb != 0 && (Bas.gr b).3 ^ Int.toNat r % (Bas.gr b).1 == k0 ^ Int.toNat (crtN b a root z sa sb) % (Bas.gr b).1 * sa % (Bas.gr b).1) == true) 192 ([AV.agg y0, Zi (z ^ Int.toNat (crtN b a root z sa sb) % (Bas.gr b).1), Zi sb]) (Zi (z ^ Int.toNat (crtN b a root z sa sb) % (Bas.gr b).1 * sb % Grp.p (Bas.gr b))) (.out (AV.bool (crtN b a root z sa sb != 0 && (Bas.gr b).3 ^ Int.toNat r % (Bas.gr b).1 == k0 ^ Int.toNat (crtN b a root z sa sb) % (Bas.gr b).1 * sa % (Bas.gr b).1 && a ^ Int.toNat r % (Bas.gr b).1 == z ^ Int.toNat (crtN b a root z sa sb) % (Bas.gr b).1 * sb % (Bas.gr b).1)) [] y1 []))))))))))))))
    (by kernel_rfl) ?_
  refine k_sc (hv) ?_
  refine k_scg (fun h1 => hm ((validB_ok (key_1 (by simpa using h1)).1))) ?_
  refine k_scg (fun h2 => he ((validB_ok (key_1 (by simp at h2; exact h2.1)).1))) ?_
  refine k_scg (fun h3 => hs) ?_
  refine k_br (fun h4 => ?_) (fun h4 => ?_)
  · have g4 := (cnd_or_t (cnd_or_t (cnd_or_t (cnd_not_t cnd_id_f) (cnd_not_t cnd_id_f)) (cnd_not_t cnd_id_f)) (cnd_not_t (cnd_and_f cnd_dec_f cnd_dec_f))) h4
    exact k_out (Ent.of_eq (congrArg _ (by rcases g4 with ((h | h) | h) | h; (· exact (ver_0 (.inl h)).symm); (· exact (ver_0 (.inr (.inl h))).symm); (· exact (ver_0 (.inr (.inr (.inl h)))).symm); (· exact (ver_0 (.inr (.inr (.inr (sca_0 h))))).symm))))
  · have g4 := (cnd_or_f (cnd_or_f (cnd_or_f (cnd_not_f cnd_id_t) (cnd_not_f cnd_id_t)) (cnd_not_f cnd_id_t)) (cnd_not_f (cnd_and_t cnd_dec_t cnd_dec_t))) h4
    refine k_sc (hc (by (have := (K g4).ok; exact (validB_q (key_1 g4.1.1.1).1).1)) (by exact (validB_q (key_1 g4.1.1.1).1).2)) ?_
    refine k_scg (fun h7 => (rpowR_c (Bas.gr b)) ((Bas.gr b).3) (r) (by (cases K g4; assumption)) (by (cases K g4; assumption)) (by (cases K g4; assumption))) ?_
    refine k_scg (fun h8 => (rpowR_c (Bas.gr b)) (k0) (crtN b a root z sa sb) (by (cases K g4; assumption)) (by (cases K g4; assumption)) (by (cases K g4; assumption))) ?_
    refine k_scg (fun h9 => (rmulR_c (Bas.gr b)) (k0 ^ Int.toNat (crtN b a root z sa sb) % (Bas.gr b).1) (sa) (by (cases K g4; assumption)) (by exact mod_bnd (K g4).ok _) (by (cases K g4; assumption))) ?_
    refine k_scg (fun h10 => (rpowR_c (Bas.gr b)) (a) (r) (by (cases K g4; assumption)) (by (cases K g4; assumption)) (by (cases K g4; assumption))) ?_
    refine k_scg (fun h11 => (rpowR_c (Bas.gr b)) (z) (crtN b a root z sa sb) (by (cases K g4; assumption)) (by (cases K g4; assumption)) (by (cases K g4; assumption))) ?_
    refine k_scg (fun h12 => (rmulR_c (Bas.gr b)) (z ^ Int.toNat (crtN b a root z sa sb) % (Bas.gr b).1) (sb) (by (cases K g4; assumption)) (by exact mod_bnd (K g4).ok _) (by (cases K g4; assumption))) ?_
    exact k_out (Ent.of_eq (congrArg _ ((Bool.and_assoc _ _ _).trans (ver_r g4.1.1.1 g4.1.1.2 g4.1.2 g4.2).symm)))

end Go.Proofs.YtolcfdcoidpieaaGreatDoor

namespace Go.Sp
open Go Go.Am
def coinV (b : Bas) (r : Rcd) (c : Coin) : Bool :=
  rcvB b r && c.bank == r.bank && c.epoch == r.epoch && c.denom == r.denom && c.depth == r.depth && verR b r.h r.h1 r.h2 c.a c.root c.z c.sa c.sb c.r
def lvB (n : Int) : Bool := decide (firstI (fun i => n == (2 ^ i : Nat)) 6 0 ≥ 0)
theorem lvB_f : ∀ d : Fin 6, lvB ((2 ^ d.1 : Nat) : Int) = true := by decide +kernel
theorem lvB_d {d : Nat} (h : d ≤ 5) : lvB ((2 ^ d : Nat) : Int) = true := lvB_f ⟨d, by omega⟩
theorem hsl_out {os : List (Option Ob)} {n m : Nat} {F : Nat → Nat → Int} (hn : m = n) : Ent os (.isl 32 m fun r k => atL (u8c (F r)) k) (hsl n F) := by
  subst hn
  exact Ent.isl fun i j _ hj => atL_map_range (es := 32) (g := fun j => AV.int .u8 (F i j)) hj
theorem tup2_out {os : List (Option Ob)} {a b : AV} {v : AV} (h : Ent os a b) : Ent os (.tup [a, v]) (.tup [b, v]) := Ent.tup ⟨h, Ent.refl _, trivial⟩
end Go.Sp

namespace Go.Proofs.YtolcfdcoidpieaaGreatDoor
open Go Go.Am Go.Sp
set_option maxRecDepth 100000

theorem cval_c (b : Bas) (r : Rcd) (c : Coin) (hw : b.gr.W) (hr : byB c.root 32) : Pure Tryz.prog gl0 70 [b.av, r.av, c.av] (.bool (coinV b r c)) := by
  have hv := recV_c b r hw
  have hs := verR_c b r.h r.h1 r.h2 c.a c.root c.z c.sa c.sb c.r hw hr
  refine pure_sk (own := ow0) Tryz.func70 (by kernel_rfl) mixed (by kernel_rfl)
    (.sc (true) 138 ([AV.agg (Bas.cells b), AV.agg (Rcd.cells r)]) (AV.bool (rcvB b r)) (.sc ((rcvB b r && c.1 == r.1 && c.2 == r.2 && c.3 == r.3 && c.4 == r.5) == true) 139 ([AV.agg (Bas.cells b), AV.agg [Zi r.6, Zi r.7, Zi r.8], Zi c.5, AV.agg (u8c c.6), AV.agg [Zi c.7, Zi c.8, Zi c.9, Zi c.10]]) (AV.bool (verR b (Rcd.h r) (Rcd.h1 r) (Rcd.h2 r) (Coin.a c) (Coin.root c) (Coin.z c) (Coin.sa c) (Coin.sb c) (Coin.r c))) (.out (AV.bool (rcvB b r && c.1 == r.1 && c.2 == r.2 && c.3 == r.3 && c.4 == r.5 && verR b r.6 r.7 r.8 c.5 c.6 c.7 c.8 c.9 c.10)) [] (AV.bool (coinV b r c)) [])))
    (by kernel_rfl) ?_
  refine k_sc (hv) ?_
  refine k_scg (fun h1 => hs) ?_
  exact k_out (Ent.refl _)

theorem rcval_c (b : Bas) (r : Rcd) (c : Coin) (hw : b.gr.W) (hr : byB c.root 32) : Pure Tryz.prog gl0 58 [b.av, r.av, c.av] (.bool (coinV b r c)) := by
  have hv := rrecV_c b r hw
  have hs := rverR_c b r.h r.h1 r.h2 c.a c.root c.z c.sa c.sb c.r hw hr
  refine pure_sk (own := ow0) Tryz.func58 (by kernel_rfl) mixed (by kernel_rfl)
    (.sc (true) 117 ([AV.agg (Bas.cells b), AV.agg (Rcd.cells r)]) (AV.bool (rcvB b r)) (.sc ((rcvB b r && c.1 == r.1 && c.2 == r.2 && c.3 == r.3 && c.4 == r.5) == true) 118 ([AV.agg (Bas.cells b), AV.agg [Zi r.6, Zi r.7, Zi r.8], Zi c.5, AV.agg (u8c c.6), AV.agg [Zi c.7, Zi c.8, Zi c.9, Zi c.10]]) (AV.bool (verR b (Rcd.h r) (Rcd.h1 r) (Rcd.h2 r) (Coin.a c) (Coin.root c) (Coin.z c) (Coin.sa c) (Coin.sb c) (Coin.r c))) (.out (AV.bool (rcvB b r && c.1 == r.1 && c.2 == r.2 && c.3 == r.3 && c.4 == r.5 && verR b r.6 r.7 r.8 c.5 c.6 c.7 c.8 c.9 c.10)) [] (AV.bool (coinV b r c)) [])))
    (by kernel_rfl) ?_
  refine k_sc (hv) ?_
  refine k_scg (fun h1 => hs) ?_
  exact k_out (Ent.refl _)

end Go.Proofs.YtolcfdcoidpieaaGreatDoor

namespace Go.Proofs.YtolcfdcoidpieaaGreatDoor
open Go Go.Am Go.Sp
set_option maxRecDepth 100000

theorem idxI_w (F : FuncId) (m : Nat) (g : Nat → AV) (f : Nat → Int) (n : Nat) (p : Nat → Bool) (hn : n ≤ 1000) (hc : ∀ i, i < n → Pure Tryz.prog gl0 F [.int .i64 (f i), .ipt m g] (.bool (p i))) : Pure Tryz.prog gl0 242 [.isl 1 n (fun i _ => .int .i64 (f i)), .fn (.func F) [] [.ipt m g]] (.int .i64 (firstI p n 0)) := by
  refine pure_sk (own := ow0) Tryz.func242 (by kernel_rfl) mixed (by kernel_rfl)
    (.loop ({ x : Nat // x ≤ n ∧ (fun (i : Nat) => firstI p n 0 = firstI p (n - i) i) x }) (fun (x : { x : Nat // x ≤ n ∧ (fun (i : Nat) => firstI p n 0 = firstI p (n - i) i) x }) => mkSt [0, 1, 7, 8] [AV.isl 1 n fun (i x : Nat) => Zi (f i), AV.fn (Fn.func F) [] [AV.ipt m g], Zi (↑n : Int), Zi (↑(x.1) : Int)] []) (fun (x : { x : Nat // x ≤ n ∧ (fun (i : Nat) => firstI p n 0 = firstI p (n - i) i) x }) => n - x.1) (⟨0, ⟨Nat.zero_le n, rfl⟩⟩) ([0, 1, 7, 8]) ([]) ([AV.isl 1 n fun (i x : Nat) => Zi (f i), AV.fn (Fn.func F) [] [AV.ipt m g], Zi (↑n : Int), Zi 0]) ([]) (fun x0 => (.br (decide ((↑x0.1 : Int) < (↑n : Int))) (.req ((0 : Int) ≤ (↑x0.1 : Int) ∧ (↑x0.1 : Int) < (↑n : Int)) (.sc (true) F ([Zi (f (Int.toNat (↑x0.1 : Int))), AV.ipt m g]) (AV.bool (p (Int.toNat (↑x0.1 : Int)))) (.br (p (Int.toNat (↑x0.1 : Int))) (.out (Zi (↑x0.1 : Int)) [] (Zi (firstI p n 0)) []) (.again (Again 0 (fun (x : { x : Nat // x ≤ n ∧ (fun (i : Nat) => firstI p n 0 = firstI p (n - i) i) x }) => mkSt [0, 1, 7, 8] [AV.isl 1 n fun (i x : Nat) => Zi (f i), AV.fn (Fn.func F) [] [AV.ipt m g], Zi (↑n : Int), Zi (↑(x.1) : Int)] []) (fun (x : { x : Nat // x ≤ n ∧ (fun (i : Nat) => firstI p n 0 = firstI p (n - i) i) x }) => n - x.1) x0) ([0, 1, 7, 8]) ([]) ([AV.isl 1 n fun (i x : Nat) => Zi (f i), AV.fn (Fn.func F) [] [AV.ipt m g], Zi (↑n : Int), Zi (IntKind.wrap IntKind.i64 ((↑x0.1 : Int) + 1))]) ([]))))) (.out (Zi (-1)) [] (Zi (firstI p n 0)) []))))
    (by kernel_rfl) ?_
  refine k_loop (fun _ hs => hs.le (⟨.refl _, .refl _, .refl _, .refl _, trivial⟩) (trivial)) (fun x0 => ?_)
  try (have q0 := x0.2; dsimp only at q0)
  refine k_br (fun h1 => ?_) (fun h1 => ?_)
  · have g1 := cnd_dec_t h1
    refine k_req (by omega) ?_
    refine k_sc (hc (Int.toNat (↑x0.1 : Int)) (by omega)) ?_
    refine k_br (fun h4 => ?_) (fun h4 => ?_)
    · have g4 := cnd_id_t h4
      try simp only [Int.toNat_natCast] at g4
      exact k_out (Ent.of_eq (congrArg _ (first_hit x0.2.2 (by omega) h4)))
    · have g4 := cnd_id_f h4
      try simp only [Int.toNat_natCast] at g4
      exact k_again (⟨x0.1 + 1, by omega, first_next x0.2.2 (by omega) h4⟩) (fun _ hs => hs.le (⟨.refl _, .refl _, .refl _, inc_ent (by omega), trivial⟩) (trivial)) (by dsimp only; omega)
  · have g1 := cnd_dec_f h1
    exact k_out (Ent.of_eq (congrArg _ (first_miss x0.2.2 (by omega))))

theorem conI_w (F : FuncId) (m : Nat) (g : Nat → AV) (f : Nat → Int) (n : Nat) (p : Nat → Bool) (hn : n ≤ 1000) (hc : ∀ i, i < n → Pure Tryz.prog gl0 F [.int .i64 (f i), .ipt m g] (.bool (p i))) : Pure Tryz.prog gl0 194 [.isl 1 n (fun i _ => .int .i64 (f i)), .fn (.func F) [] [.ipt m g]] (.bool (decide (firstI p n 0 ≥ 0))) := by
  have c1 := idxI_w F m g f n p hn hc
  refine pure_sk (own := ow0) Tryz.func194 (by kernel_rfl) mixed (by kernel_rfl)
    (let y0 : AV := (AV.bool (decide (firstI p n 0 ≥ 0))); (.sc (true) 242 ([AV.isl 1 n fun (i x : Nat) => Zi (f i), AV.fn (Fn.func F) [] [AV.ipt m g]]) (Zi (firstI p n 0)) (.out y0 [] y0 [])))
    (by kernel_rfl) ?_
  refine k_sc (c1) ?_
  exact k_out (Ent.refl _)

theorem leaves1_c (n : Int) (i : Nat) (hi : i < 6) : Pure Tryz.prog gl0 195 [.int .i64 i, .ipt 1 (atL [.int .i64 n])] (.bool (n == (2 ^ i : Nat))) := by
  have hs := shw (x := i) (by omega)
  refine pure_sk (own := ow0) Tryz.func195 (by kernel_rfl) mixed (by kernel_rfl)
    (.req ((0 : Int) ≤ (↑i : Int)) (.out (AV.bool (n == IntKind.wrap IntKind.i64 ((1 : Int) * 2 ^ min (Int.toNat (↑i : Int)) 64))) [] (AV.bool (n == (↑(2 ^ i) : Int))) []))
    (by kernel_rfl) ?_
  refine k_req (by omega) ?_
  exact k_out (Ent.of_eq (by simp_all))

end Go.Proofs.YtolcfdcoidpieaaGreatDoor

namespace Go.Proofs.YtolcfdcoidpieaaGreatDoor
open Go Go.Am Go.Sp
set_option maxRecDepth 100000

theorem leaves_c0 (n : Int) : Pure Tryz.prog gl0 194 [.isl 1 6 (fun r k => atL (List.getD [[.int .i64 0], [.int .i64 1], [.int .i64 2], [.int .i64 3], [.int .i64 4], [.int .i64 5]] r []) k), .fn (.func 195) [] [.ipt 1 (atL [.int .i64 n])]] (.bool (lvB n)) :=
  (conI_w 195 1 (atL [.int .i64 n]) (fun i => (i : Int)) 6 (fun i => n == (2 ^ i : Nat)) (by decide) (fun i hi => leaves1_c n i hi)).via
    ⟨Ent.isl fun i j hi hj => by obtain rfl : j = 0 := Nat.lt_one_iff.1 hj
                                 match i, hi with | 0, _ | 1, _ | 2, _ | 3, _ | 4, _ | 5, _ => rfl, Ent.refl _, trivial⟩

theorem leaves_c (n : Int) : Pure Tryz.prog gl0 122 [.int .i64 n] (.bool (lvB n)) := by
  have h := leaves_c0 n
  refine pure_sk (own := ow0) Tryz.func122 (by kernel_rfl) mixed (by kernel_rfl)
    (.sc (true) 194 ([AV.isl 1 6 fun (r k : Nat) => atL (List.getD [[Zi 0], [Zi 1], [Zi 2], [Zi 3], [Zi 4], [Zi 5]] (r + 0) []) k, AV.fn (Fn.func 195) [] [AV.ipt 1 fun (k : Nat) => atL [Zi n] k]]) (AV.bool (lvB n)) (.out (AV.bool (lvB n)) [] (AV.bool (lvB n)) []))
    (by kernel_rfl) ?_
  refine k_sc (h) ?_
  exact k_out (Ent.refl _)

theorem encN_c (x : Int) : Pure Tryz.prog gl0 140 [.agg [.int .i64 1, .int .i64 x, .nsl, .nsl]] (.tup [il .u8 (It.int x).enc, .int .i64 0]) :=
  (encode_c (.int x) rfl (by rw [int_len]; decide)).via ⟨Ent.agg ⟨Ent.refl _, Ent.refl _, Ent.nsl, Ent.nsl, trivial⟩, trivial⟩

theorem rencN_c (x : Int) : Pure Tryz.prog gl0 157 [.agg [.int .i64 1, .int .i64 x, .nsl, .nsl]] (il .u8 (It.int x).enc) :=
  (renc_c (.int x) (by rw [int_len]; decide)).via ⟨Ent.agg ⟨Ent.refl _, Ent.refl _, Ent.nsl, Ent.nsl, trivial⟩, trivial⟩

theorem chash_n (b : Bas) (N : Nat) (hN : N ≤ 32) (hl : lvB N = true) (f : Nat → Int) (hw : b.gr.W) (hv : validB b = true) (hf : ∀ i, i < N → elemB b.gr (f i) = true) : Pure Tryz.prog gl0 76 [b.av, .isl 1 N fun i _ => .int .i64 (f i)] (.tup [hsl N fun i => leafF (f i), .int .i64 0]) := by
  have ht := fun x : Int => tleaf_c (It.int x).enc.length (fun i => (It.int x).enc.getD i 0) (by rw [int_len]; decide) (It.enc_by (x := .int x) trivial)
  refine pure_sk (own := ow0) Tryz.func76 (by kernel_rfl) mixed (by kernel_rfl)
    (let y0 : AV := (AV.tup [hsl N fun (i : Nat) => leafF (f i), Zi 0]); (.sc (true) 34 ([AV.agg (Bas.cells b)]) (AV.bool (validB b)) (.sc ((!validB b) == false) 122 ([Zi (↑N : Int)]) (AV.bool (lvB (↑N : Int))) (.br (!validB b || !lvB (↑N : Int)) (.out (AV.tup [AV.nsl, Zi 1]) [] y0 []) (.loop ({ x : Nat // x ≤ N }) (fun (x : { x : Nat // x ≤ N }) => mkSt [2, 22, 23, 6, 24] [AV.own 0 6 0 0 6, AV.isl 1 N fun (i x : Nat) => Zi (f i), Zi (↑N : Int), AV.osl 1 32 0 (x.1), Zi (↑(x.1) : Int)] [some ⟨6, 1, true, Rep.lst [Bas.cells b]⟩, some ⟨32, x.1, true, Rep.row fun (i : Nat) => u8c (leafF (f i))⟩]) (fun (x : { x : Nat // x ≤ N }) => N - x.1) (⟨0, Nat.zero_le N⟩) ([2, 22, 23, 6, 24]) ([0, 8321]) ([AV.own 0 6 0 0 6, AV.isl 1 N fun (i x : Nat) => Zi (f i), Zi (↑N : Int), AV.nsl, Zi 0]) ([some ⟨6, 1, true, Rep.lst [Bas.cells b]⟩, some ⟨32, 0, true, Rep.lst []⟩]) (fun x4 => (.br (decide ((↑x4.1 : Int) < (↑N : Int))) (.req ((0 : Int) ≤ (↑x4.1 : Int) ∧ (↑x4.1 : Int) < (↑N : Int)) (.sc (true) 68 ([AV.agg [Zi (Bas.gr b).1, Zi (Bas.gr b).2, Zi (Bas.gr b).3], Zi (f (Int.toNat (↑x4.1 : Int)))]) (AV.bool (validG (Bas.gr b) && elemB (Bas.gr b) (f (Int.toNat (↑x4.1 : Int))))) (.br (!(validG b.1 && elemB b.1 (f (Int.toNat (↑x4.1 : Int))))) (.out (AV.tup [AV.nsl, Zi 2]) [] y0 []) (.dc (true) 140 ([AV.agg [Zi 1, Zi (f (Int.toNat (↑x4.1 : Int))), AV.nsl, AV.nsl]]) (AV.tup [il IntKind.u8 (It.enc (It.int (f (Int.toNat (↑x4.1 : Int))))), Zi 0]) (.sc (true) 150 ([AV.isl 1 9 fun (i x : Nat) => Zb (List.getD (It.enc (It.int (f (Int.toNat (↑x4.1 : Int))))) i (0 : Int))]) (AV.tup [AV.agg (u8c (tagF (String.toUTF8 "specie/leaf") (List.length (It.enc (It.int (f (Int.toNat (↑x4.1 : Int)))))) fun (i : Nat) => List.getD (It.enc (It.int (f (Int.toNat (↑x4.1 : Int))))) i (0 : Int))), Zi 0]) (.req ((x4.1 + 1) * 32 ≤ 140737488355328) (.again (Again 0 (fun (x : { x : Nat // x ≤ N }) => mkSt [2, 22, 23, 6, 24] [AV.own 0 6 0 0 6, AV.isl 1 N fun (i x : Nat) => Zi (f i), Zi (↑N : Int), AV.osl 1 32 0 (x.1), Zi (↑(x.1) : Int)] [some ⟨6, 1, true, Rep.lst [Bas.cells b]⟩, some ⟨32, x.1, true, Rep.row fun (i : Nat) => u8c (leafF (f i))⟩]) (fun (x : { x : Nat // x ≤ N }) => N - x.1) x4) ([2, 22, 23, 6, 24]) ([0, 226]) ([AV.own 0 6 0 0 6, AV.isl 1 N fun (i x : Nat) => Zi (f i), Zi (↑N : Int), AV.osl 1 32 0 (x4.1 + 1), Zi (IntKind.wrap IntKind.i64 ((↑x4.1 : Int) + 1))]) ([some ⟨6, 1, true, Rep.lst [Bas.cells b]⟩, some ⟨32, x4.1 + 1, true, Rep.cat x4.1 (Rep.row fun (i : Nat) => u8c (leafF (f i))) (Rep.lst [u8c (tagF (String.toUTF8 "specie/leaf") (List.length (It.enc (It.int (f (Int.toNat (↑x4.1 : Int)))))) fun (i : Nat) => List.getD (It.enc (It.int (f (Int.toNat (↑x4.1 : Int))))) i (0 : Int))])⟩])))))))) (.out (AV.tup [AV.isl 32 x4.1 fun (r k : Nat) => atL (u8c (leafF (f (r + 0)))) k, Zi 0]) [] y0 []))))))))
    (by kernel_rfl) ?_
  refine k_sc ((bvalid_c b) (by assumption)) ?_
  refine k_scg (fun h1 => leaves_c ((↑N : Int))) ?_
  refine k_br (fun h2 => ?_) (fun h2 => ?_)
  · have g2 := (cnd_or_t (cnd_not_t cnd_id_f) (cnd_not_t cnd_id_f)) h2
    exact k_out (by exfalso; rcases g2 with g | g; (· rw [hv] at g; cases g); (· rw [hl] at g; cases g))
  · have g2 := (cnd_or_f (cnd_not_f cnd_id_t) (cnd_not_f cnd_id_t)) h2
    refine k_loop (fun _ hs => hs.le (by repeat' (first | exact trivial | (first | exact Ent.refl _ | exact inc_ent (by omega) | exact Ent.nil rfl | exact Ent.of_eq (congrArg (AV.osl _ _ _) (by first | omega | (dsimp only; omega))) | exact Ent.of_eq (congrArg (AV.int _) (by first | omega | (dsimp only; omega)))) | refine And.intro ?_ ?_)) (by exact ⟨ObEnt.refl _, ObEnt.zero, trivial⟩)) (fun x4 => ?_)
    try (have q4 := x4.2; dsimp only at q4)
    refine k_br (fun h5 => ?_) (fun h5 => ?_)
    · have g5 := cnd_dec_t h5
      refine k_req (by omega) ?_
      refine k_sc ((contains_c (Bas.gr b)) (f (Int.toNat (↑x4.1 : Int))) (by assumption)) ?_
      refine k_br (fun h8 => ?_) (fun h8 => ?_)
      · have g8 := (cnd_not_t (cnd_and_f cnd_id_f cnd_id_f)) h8
        try simp only [Int.toNat_natCast] at g8
        exact k_out (by exfalso; rcases g8 with g | g; (· rw [validG_iff.2 (validB_ok hv)] at g; cases g); (· rw [hf _ (by omega)] at g; cases g))
      · have g8 := (cnd_not_f (cnd_and_t cnd_id_t cnd_id_t)) h8
        try simp only [Int.toNat_natCast] at g8
        refine k_dc (encN_c (f (Int.toNat (↑x4.1 : Int)))) ?_
        refine k_sc (ht (f (Int.toNat (↑x4.1 : Int)))) ?_
        refine k_req (by omega) ?_
        exact k_again (⟨x4.1 + 1, by omega⟩) (fun _ hs => hs.le (by repeat' (first | exact trivial | (first | exact Ent.refl _ | exact inc_ent (by omega) | exact Ent.nil rfl | exact Ent.of_eq (congrArg (AV.osl _ _ _) (by first | omega | (dsimp only; omega))) | exact Ent.of_eq (congrArg (AV.int _) (by first | omega | (dsimp only; omega)))) | refine And.intro ?_ ?_)) (by exact ⟨ObEnt.refl _, ObEnt.catRow rfl (fun _ _ => EntL.refl _) (EntL.refl _), trivial⟩)) (by (dsimp only; omega))
    · have g5 := cnd_dec_f h5
      exact k_out (tup2_out (hsl_out (by omega)))

theorem rhash_c (n : Nat) (hn : n ≤ 1000) (f : Nat → Int) : Pure Tryz.prog gl0 85 [.isl 1 n fun i _ => .int .i64 (f i)] (hsl n fun i => leafF (f i)) := by
  have ht := fun x : Int => rtleaf_c (It.int x).enc.length (fun i => (It.int x).enc.getD i 0) (by rw [int_len]; decide) (It.enc_by (x := .int x) trivial)
  refine pure_sk (own := ow0) Tryz.func85 (by kernel_rfl) mixed (by kernel_rfl)
    (.loop ({ x : Nat // x ≤ n }) (fun (x : { x : Nat // x ≤ n }) => mkSt [0, 3, 4] [AV.isl 1 n fun (i x : Nat) => Zi (f i), AV.osl 0 32 0 (x.1), Zi (↑(x.1) : Int)] [some ⟨32, x.1, true, Rep.row fun (i : Nat) => u8c (leafF (f i))⟩]) (fun (x : { x : Nat // x ≤ n }) => n - x.1) (⟨0, Nat.zero_le n⟩) ([0, 3, 4]) ([8216]) ([AV.isl 1 n fun (i x : Nat) => Zi (f i), AV.nsl, Zi 0]) ([some ⟨32, 0, true, Rep.lst []⟩]) (fun x0 => (.br (decide ((↑x0.1 : Int) < (↑n : Int))) (.req ((0 : Int) ≤ (↑x0.1 : Int) ∧ (↑x0.1 : Int) < (↑n : Int)) (.dc (true) 157 ([AV.agg [Zi 1, Zi (f (Int.toNat (↑x0.1 : Int))), AV.nsl, AV.nsl]]) (il IntKind.u8 (It.enc (It.int (f (Int.toNat (↑x0.1 : Int)))))) (.sc (true) 162 ([AV.isl 1 9 fun (i x : Nat) => Zb (List.getD (It.enc (It.int (f (Int.toNat (↑x0.1 : Int))))) i (0 : Int))]) (AV.agg (u8c (tagF (String.toUTF8 "specie/leaf") (List.length (It.enc (It.int (f (Int.toNat (↑x0.1 : Int)))))) fun (i : Nat) => List.getD (It.enc (It.int (f (Int.toNat (↑x0.1 : Int))))) i (0 : Int)))) (.req ((x0.1 + 1) * 32 ≤ 140737488355328) (.again (Again 0 (fun (x : { x : Nat // x ≤ n }) => mkSt [0, 3, 4] [AV.isl 1 n fun (i x : Nat) => Zi (f i), AV.osl 0 32 0 (x.1), Zi (↑(x.1) : Int)] [some ⟨32, x.1, true, Rep.row fun (i : Nat) => u8c (leafF (f i))⟩]) (fun (x : { x : Nat // x ≤ n }) => n - x.1) x0) ([0, 3, 4]) ([105]) ([AV.isl 1 n fun (i x : Nat) => Zi (f i), AV.osl 0 32 0 (x0.1 + 1), Zi (IntKind.wrap IntKind.i64 ((↑x0.1 : Int) + 1))]) ([some ⟨32, x0.1 + 1, true, Rep.cat x0.1 (Rep.row fun (i : Nat) => u8c (leafF (f i))) (Rep.lst [u8c (tagF (String.toUTF8 "specie/leaf") (List.length (It.enc (It.int (f (Int.toNat (↑x0.1 : Int)))))) fun (i : Nat) => List.getD (It.enc (It.int (f (Int.toNat (↑x0.1 : Int))))) i (0 : Int))])⟩])))))) (.out (AV.isl 32 x0.1 fun (r k : Nat) => atL (u8c (leafF (f (r + 0)))) k) [] (hsl n fun (i : Nat) => leafF (f i)) []))))
    (by kernel_rfl) ?_
  refine k_loop (fun _ hs => hs.le (by repeat' (first | exact trivial | (first | exact Ent.refl _ | exact inc_ent (by omega) | exact Ent.nil rfl | exact Ent.of_eq (congrArg (AV.osl _ _ _) (by first | omega | (dsimp only; omega))) | exact Ent.of_eq (congrArg (AV.int _) (by first | omega | (dsimp only; omega)))) | refine And.intro ?_ ?_)) (by exact ⟨ObEnt.zero, trivial⟩)) (fun x0 => ?_)
  try (have q0 := x0.2; dsimp only at q0)
  refine k_br (fun h1 => ?_) (fun h1 => ?_)
  · have g1 := cnd_dec_t h1
    refine k_req (by omega) ?_
    refine k_dc (rencN_c (f (Int.toNat (↑x0.1 : Int)))) ?_
    refine k_sc (ht (f (Int.toNat (↑x0.1 : Int)))) ?_
    refine k_req (by omega) ?_
    exact k_again (⟨x0.1 + 1, by omega⟩) (fun _ hs => hs.le (by repeat' (first | exact trivial | (first | exact Ent.refl _ | exact inc_ent (by omega) | exact Ent.nil rfl | exact Ent.of_eq (congrArg (AV.osl _ _ _) (by first | omega | (dsimp only; omega))) | exact Ent.of_eq (congrArg (AV.int _) (by first | omega | (dsimp only; omega)))) | refine And.intro ?_ ?_)) (by exact ⟨ObEnt.catRow rfl (fun _ _ => EntL.refl _) (EntL.refl _), trivial⟩)) (by (dsimp only; omega))
  · have g1 := cnd_dec_f h1
    exact k_out (hsl_out (by omega))

end Go.Proofs.YtolcfdcoidpieaaGreatDoor

namespace Go.Sp
open Go Go.Am
def prdF (G : Grp) (f e : Nat → Int) : Nat → Int
  | 0 => 1
  | x + 1 => prdF G f e x * (f x ^ (e x).toNat % G.p) % G.p
theorem elem_one {G : Grp} (h : G.Ok) : elemB G 1 = true := (elem_iff h).2 ⟨Int.le_refl _, by have := h.p3; omega, by rw [Int.one_pow]; exact Int.emod_eq_of_lt (by decide) (by have := h.p3; omega)⟩
theorem elem_prd {G : Grp} (h : G.Ok) {f e : Nat → Int} {n : Nat} (hf : ∀ i, i < n → elemB G (f i) = true) : ∀ x, x ≤ n → elemB G (prdF G f e x) = true
  | 0, _ => elem_one h
  | x + 1, hx => elem_mul h (elem_prd h hf x (by omega)) (elem_pow h (hf x (by omega)) _)
def pr2 (G : Grp) (a b x y : Int) : Int := a ^ x.toNat % G.p * (b ^ y.toNat % G.p) % G.p
def sel2 (a b : Int) (i : Nat) : Int := [a, b].getD i 0
theorem prd_2 {G : Grp} (h : G.Ok) {f e : Nat → Int} : prdF G f e 2 = pr2 G (f 0) (f 1) (e 0) (e 1) := by
  show (1 * (f 0 ^ (e 0).toNat % G.p) % G.p) * (f 1 ^ (e 1).toNat % G.p) % G.p = _
  rw [Int.one_mul, Int.emod_eq_of_lt (mod_bnd h _).1 (mod_bnd h _).2]
  rfl
theorem sel_isl {os : List (Option Ob)} {a b : Int} : Ent os (.isl 1 2 fun r k => atL (List.getD [[.int .i64 a], [.int .i64 b]] r []) k) (.isl 1 2 fun i _ => .int .i64 (sel2 a b i)) := Ent.isl fun i j hi hj => by
  obtain rfl : j = 0 := Nat.lt_one_iff.1 hj
  match i, hi with | 0, _ | 1, _ => rfl
def chk2 (b : Bas) (y r1 r2 : Int) : Bool := scaB b.gr r1 && scaB b.gr r2 && (pr2 b.gr b.g1 b.g2 r1 r2 == y)
theorem fst_no {p : Nat → Bool} {n : Nat} (h : ∀ i, i < n → p i = false) : decide (firstI p n 0 ≥ 0) = false := by
  rw [firstI_neg]
  apply List.any_eq_false.2
  intro i hi
  rw [Nat.zero_add, h i (List.mem_range.1 hi)]
  decide
theorem fst_2 {p : Nat → Bool} : decide (firstI p 2 0 ≥ 0) = (p 0 || p 1) := by
  rw [firstI_neg]
  show (p (0 + 0) || (p (0 + 1) || false)) = _
  rw [Bool.or_false, Nat.zero_add, Nat.zero_add]
theorem sca_iff {G : Grp} {r : Int} : scaB G r = true ↔ 0 ≤ r ∧ r < G.q := by unfold scaB; simp
theorem sca_sel {G : Grp} {a c : Int} (h : scaB G a = true ∧ scaB G c = true) : ∀ i, i < 2 → 0 ≤ sel2 a c i ∧ sel2 a c i < G.q := fun i hi => match i, hi with
  | 0, _ => sca_iff.1 h.1
  | 1, _ => sca_iff.1 h.2
def pr2V (b : Bas) (r1 r2 : Int) : Int := bif scaB b.gr r1 && scaB b.gr r2 then pr2 b.gr b.g1 b.g2 r1 r2 else 0
def pr2E (b : Bas) (r1 r2 : Int) : Int := bif scaB b.gr r1 && scaB b.gr r2 then 0 else 2
theorem pr2_no {b : Bas} {r1 r2 : Int} (h : scaB b.gr r1 = false ∨ scaB b.gr r2 = false) : pr2V b r1 r2 = 0 ∧ pr2E b r1 r2 = 2 := by
  have e : (scaB b.gr r1 && scaB b.gr r2) = false := by rcases h with h | h <;> simp [h]
  unfold pr2V pr2E; rw [e]; exact ⟨rfl, rfl⟩
theorem pr2_ok {b : Bas} {r1 r2 : Int} (h : scaB b.gr r1 = true ∧ scaB b.gr r2 = true) : pr2V b r1 r2 = pr2 b.gr b.g1 b.g2 r1 r2 ∧ pr2E b r1 r2 = 0 := by
  unfold pr2V pr2E; rw [h.1, h.2]; exact ⟨rfl, rfl⟩
theorem chk2_eq {b : Bas} {y r1 r2 : Int} : (pr2E b r1 r2 == 0 && pr2V b r1 r2 == y) = chk2 b y r1 r2 := by
  unfold chk2
  cases h1 : scaB b.gr r1 with
  | false => rw [(pr2_no (.inl h1)).2]; rfl
  | true =>
    cases h2 : scaB b.gr r2 with
    | false => rw [(pr2_no (.inr h2)).2]; rfl
    | true => rw [(pr2_ok ⟨h1, h2⟩).1, (pr2_ok ⟨h1, h2⟩).2]; rfl
theorem sca_n {G : Grp} {e : Int} : (decide (e < 0) || decide (e ≥ G.q)) = !scaB G e := by
  unfold scaB
  by_cases h : e < 0 <;> by_cases h' : e ≥ G.q <;> simp [h, h'] <;> omega
def leafB (b : Bas) (a k x r1 r2 : Int) : Bool := elemB b.gr x && chk2 b (a ^ k.toNat % b.gr.p * x % b.gr.p) r1 r2
theorem leaf_no {b : Bas} {a k x r1 r2 : Int} (h : (elemB b.gr x = false ∨ scaB b.gr r1 = false) ∨ scaB b.gr r2 = false) : leafB b a k x r1 r2 = false := by
  unfold leafB chk2; rcases h with (h | h) | h <;> simp [h]
theorem leaf_eq {b : Bas} {a k x r1 r2 : Int} (h : (elemB b.gr x = true ∧ scaB b.gr r1 = true) ∧ scaB b.gr r2 = true) : (b.g1 ^ r1.toNat % b.gr.p * (b.g2 ^ r2.toNat % b.gr.p) % b.gr.p == a ^ k.toNat % b.gr.p * x % b.gr.p) = leafB b a k x r1 r2 := by
  unfold leafB chk2; rw [h.1.1, h.1.2, h.2]; rfl
end Go.Sp

namespace Go.Proofs.YtolcfdcoidpieaaGreatDoor
open Go Go.Am Go.Sp
set_option maxRecDepth 100000

theorem pel1_c (G : Grp) (x : Int) (h : G.Ok) (hw : G.W) : Pure Tryz.prog gl0 272 [.int .i64 x, .ipt 3 (atL G.cells)] (.bool (!elemB G x)) := by
  have hg := validG_iff.2 h
  refine pure_sk (own := ow0) Tryz.func272 (by kernel_rfl) mixed (by kernel_rfl)
    (.sc (true) 68 ([AV.agg [Zi G.1, Zi G.2, Zi G.3], Zi x]) (AV.bool (validG G && elemB G x)) (.out (AV.bool !(validG G && elemB G x)) [] (AV.bool !elemB G x) []))
    (by kernel_rfl) ?_
  refine k_sc ((contains_c G) (x) (by assumption)) ?_
  exact k_out (Ent.of_eq (congrArg _ (by rw [hg, Bool.true_and])))

theorem pex1_c (G : Grp) (x : Int) : Pure Tryz.prog gl0 273 [.int .i64 x, .ipt 3 (atL G.cells)] (.bool (decide (x < 0) || decide (x ≥ G.q))) := by
  refine pure_sk (own := ow0) Tryz.func273 (by kernel_rfl) mixed (by kernel_rfl)
    (.out (AV.bool (decide (x < 0) || decide (x ≥ G.2))) [] (AV.bool (decide (x < 0) || decide (x ≥ Grp.q G))) [])
    (by kernel_rfl) ?_
  exact k_out (Ent.refl _)

theorem pel_c (G : Grp) (n : Nat) (f : Nat → Int) (hn : n ≤ 1000) (h : G.Ok) (hw : G.W) (hf : ∀ i, i < n → elemB G (f i) = true) : Pure Tryz.prog gl0 239 [G.av, .isl 1 n fun i _ => .int .i64 (f i)] (.bool true) := by
  have c1 := conI_w 272 3 (atL G.cells) f n (fun i => !elemB G (f i)) hn (fun i _ => pel1_c G (f i) h hw)
  have e := fst_no (p := fun i => !elemB G (f i)) (n := n) (fun i hi => by rw [hf i hi]; rfl)
  refine pure_sk (own := ow0) Tryz.func239 (by kernel_rfl) mixed (by kernel_rfl)
    (.sc (true) 194 ([AV.isl 1 n fun (i x : Nat) => Zi (f i), AV.fn (Fn.func 272) [] [AV.ipt 3 fun (k : Nat) => atL [Zi G.1, Zi G.2, Zi G.3] k]]) (AV.bool (decide (firstI (fun (i : Nat) => !elemB G (f i)) n 0 ≥ 0))) (.out (AV.bool !decide (firstI (fun (i : Nat) => !elemB G (f i)) n 0 ≥ 0)) [] (AV.bool true) []))
    (by kernel_rfl) ?_
  refine k_sc (c1) ?_
  exact k_out (Ent.of_eq (congrArg _ (by rw [e]; rfl)))

theorem pex_c (G : Grp) (a c : Int) : Pure Tryz.prog gl0 240 [G.av, .isl 1 2 fun i _ => .int .i64 (sel2 a c i)] (.bool (scaB G a && scaB G c)) := by
  have c1 := conI_w 273 3 (atL G.cells) (sel2 a c) 2 (fun i => decide (sel2 a c i < 0) || decide (sel2 a c i ≥ G.q)) (by decide) (fun i _ => pex1_c G (sel2 a c i))
  have e := fst_2 (p := fun i => decide (sel2 a c i < 0) || decide (sel2 a c i ≥ G.q))
  refine pure_sk (own := ow0) Tryz.func240 (by kernel_rfl) mixed (by kernel_rfl)
    (.sc (true) 194 ([AV.isl 1 2 fun (i x : Nat) => Zi (sel2 a c i), AV.fn (Fn.func 273) [] [AV.ipt 3 fun (k : Nat) => atL [Zi G.1, Zi G.2, Zi G.3] k]]) (AV.bool (decide (firstI (fun (i : Nat) => decide (sel2 a c i < 0) || decide (sel2 a c i ≥ Grp.q G)) 2 0 ≥ 0))) (.out (AV.bool !decide (firstI (fun (i : Nat) => decide (sel2 a c i < 0) || decide (sel2 a c i ≥ G.2)) 2 0 ≥ 0)) [] (AV.bool (scaB G a && scaB G c)) []))
    (by kernel_rfl) ?_
  refine k_sc (c1) ?_
  exact k_out (Ent.of_eq (congrArg _ (by rw [e, sca_n, sca_n, ← Bool.not_and, Bool.not_not]; rfl)))

theorem powers_c (G : Grp) (f e : Nat → Int) (h : G.Ok) (hw : G.W) (hf : ∀ i, i < 2 → elemB G (f i) = true) (he : ∀ i, i < 2 → 0 ≤ e i ∧ e i < G.q) : Pure Tryz.prog gl0 241 [G.av, .isl 1 2 fun i _ => .int .i64 (f i), .isl 1 2 fun i _ => .int .i64 (e i)] (.tup [.int .i64 (prdF G f e 2), .int .i64 0]) := by
  refine pure_sk (own := ow0) Tryz.func241 (by kernel_rfl) mixed (by kernel_rfl)
    (let y0 : List (Option Ob) := [some ⟨3, 1, true, Rep.lst [[Zi (Grp.p G), Zi (Grp.q G), Zi (Grp.g G)]]⟩]; (.loop ({ x : Nat // x ≤ 2 }) (fun (x : { x : Nat // x ≤ 2 }) => mkSt [2, 3, 13, 14, 8, 15] [AV.isl 1 2 fun (i x : Nat) => Zi (e i), AV.own 0 3 0 0 3, AV.isl 1 2 fun (i x : Nat) => Zi (f i), Zi (↑(2) : Int), Zi (prdF G f e (x.1)), Zi (↑(x.1) : Int)] y0) (fun (x : { x : Nat // x ≤ 2 }) => 2 - x.1) (⟨0, Nat.zero_le 2⟩) ([2, 3, 13, 14, 8, 15]) ([0]) ([AV.isl 1 2 fun (i x : Nat) => Zi (e i), AV.own 0 3 0 0 3, AV.isl 1 2 fun (i x : Nat) => Zi (f i), Zi (↑(2) : Int), Zi 1, Zi 0]) (y0) (fun x0 => (.br (decide ((↑x0.1 : Int) < (↑(2) : Int))) (.req ((0 : Int) ≤ (↑x0.1 : Int) ∧ (↑x0.1 : Int) < (↑(2) : Int)) (.req ((0 : Int) ≤ (↑x0.1 : Int) ∧ (↑x0.1 : Int) < (↑(2) : Int)) (.sc (true) 146 ([AV.agg [Zi G.1, Zi G.2, Zi G.3], Zi (f (Int.toNat (↑x0.1 : Int))), Zi (e (Int.toNat (↑x0.1 : Int)))]) (AV.tup [Zi (f (Int.toNat (↑x0.1 : Int)) ^ Int.toNat (e (Int.toNat (↑x0.1 : Int))) % Grp.p G), Zi 0]) (.ff (.sc (true) 147 ([AV.agg [Zi G.1, Zi G.2, Zi G.3], Zi (prdF G f e x0.1), Zi (f (Int.toNat (↑x0.1 : Int)) ^ Int.toNat (e (Int.toNat (↑x0.1 : Int))) % G.1)]) (AV.tup [Zi (prdF G f e x0.1 * (f (Int.toNat (↑x0.1 : Int)) ^ Int.toNat (e (Int.toNat (↑x0.1 : Int))) % G.1) % Grp.p G), Zi 0]) (.ff (.again (Again 0 (fun (x : { x : Nat // x ≤ 2 }) => mkSt [2, 3, 13, 14, 8, 15] [AV.isl 1 2 fun (i x : Nat) => Zi (e i), AV.own 0 3 0 0 3, AV.isl 1 2 fun (i x : Nat) => Zi (f i), Zi (↑(2) : Int), Zi (prdF G f e (x.1)), Zi (↑(x.1) : Int)] y0) (fun (x : { x : Nat // x ≤ 2 }) => 2 - x.1) x0) ([2, 3, 13, 14, 8, 15]) ([0]) ([AV.isl 1 2 fun (i x : Nat) => Zi (e i), AV.own 0 3 0 0 3, AV.isl 1 2 fun (i x : Nat) => Zi (f i), Zi (↑(2) : Int), Zi (prdF G f e x0.1 * (f (Int.toNat (↑x0.1 : Int)) ^ Int.toNat (e (Int.toNat (↑x0.1 : Int))) % G.1) % G.1), Zi (IntKind.wrap IntKind.i64 ((↑x0.1 : Int) + 1))]) (y0)))))))) (.out (AV.tup [Zi (prdF G f e x0.1), Zi 0]) [] (AV.tup [Zi (prdF G f e 2), Zi 0]) [])))))
    (by kernel_rfl) ?_
  refine k_loop (fun _ hs => hs.le (⟨.refl _, .refl _, .refl _, .refl _, .refl _, .refl _, trivial⟩) (⟨.refl _, trivial⟩)) (fun x0 => ?_)
  try (have q0 := x0.2; dsimp only at q0)
  refine k_br (fun h1 => ?_) (fun h1 => ?_)
  · have g1 := cnd_dec_t h1
    refine k_req (by omega) ?_
    refine k_req (by omega) ?_
    refine k_sc ((gpow_c G) (f (Int.toNat (↑x0.1 : Int))) (e (Int.toNat (↑x0.1 : Int))) (by assumption) (by assumption) (by exact hf _ (by omega)) (by exact he _ (by omega))) ?_
    refine k_ff ?_
    refine k_sc ((gmul_c G) (prdF G f e x0.1) (f (Int.toNat (↑x0.1 : Int)) ^ Int.toNat (e (Int.toNat (↑x0.1 : Int))) % G.1) (by assumption) (by assumption) (by exact elem_prd h hf _ (by omega)) (by exact elem_pow h (hf _ (by omega)) _)) ?_
    refine k_ff ?_
    exact k_again (⟨x0.1 + 1, by omega⟩) (fun _ hs => hs.le (⟨.refl _, .refl _, .refl _, .refl _, .refl _, inc_ent (by omega), trivial⟩) (⟨.refl _, trivial⟩)) (by dsimp only; omega)
  · have g1 := cnd_dec_f h1
    exact k_out (by exact Ent.of_eq (by rw [show x0.1 = 2 by omega]))

theorem product2_c (b : Bas) (r1 r2 : Int) (hw : b.gr.W) (hv : validB b = true) : Pure Tryz.prog gl0 193 [b.gr.av, .isl 1 2 fun i _ => .int .i64 (sel2 b.g1 b.g2 i), .isl 1 2 fun i _ => .int .i64 (sel2 r1 r2 i)] (.tup [.int .i64 (pr2V b r1 r2), .int .i64 (pr2E b r1 r2)]) := by
  have h := validB_iff.1 hv
  have hf : ∀ i, i < 2 → elemB b.gr (sel2 b.g1 b.g2 i) = true := fun i hi => match i, hi with | 0, _ => h.e1 | 1, _ => h.e2
  have hg := validG_iff.2 h.G
  have c1 := pel_c b.gr 2 (sel2 b.g1 b.g2) (by decide) h.G hw hf
  have c2 := pex_c b.gr r1 r2
  have c3 := fun he => powers_c b.gr (sel2 b.g1 b.g2) (sel2 r1 r2) h.G hw hf he
  refine pure_sk (own := ow0) Tryz.func193 (by kernel_rfl) mixed (by kernel_rfl)
    (let y0 : List AV := [Zi (Bas.gr b).1, Zi (Bas.gr b).2, Zi (Bas.gr b).3]; let y1 : AV := (AV.tup [Zi (pr2V b r1 r2), Zi (pr2E b r1 r2)]); (.sc (true) 67 ([AV.agg y0]) (AV.bool (validG (Bas.gr b))) (.br (!validG b.1 || false) (.out (AV.tup [Zi 0, Zi 1]) [] y1 []) (.ff (.sc (true) 239 ([AV.agg y0, AV.isl 1 2 fun (i x : Nat) => Zi (sel2 b.2 b.3 i)]) (AV.bool true) (.sc (true) 240 ([AV.agg y0, AV.isl 1 2 fun (i x : Nat) => Zi (sel2 r1 r2 i)]) (AV.bool (scaB (Bas.gr b) r1 && scaB (Bas.gr b) r2)) (.br (!(scaB b.1 r1 && scaB b.1 r2)) (.out (AV.tup [Zi 0, Zi 2]) [] y1 []) (.sc (true) 241 ([AV.agg y0, AV.isl 1 2 fun (i x : Nat) => Zi (sel2 b.2 b.3 i), AV.isl 1 2 fun (i x : Nat) => Zi (sel2 r1 r2 i)]) (AV.tup [Zi (prdF (Bas.gr b) (sel2 (Bas.g1 b) (Bas.g2 b)) (sel2 r1 r2) 2), Zi 0]) (.out (AV.tup [Zi (prdF b.1 (sel2 b.2 b.3) (sel2 r1 r2) 2), Zi 0]) [] y1 [])))))))))
    (by kernel_rfl) ?_
  refine k_sc ((gvalid_c (Bas.gr b)) (by assumption)) ?_
  refine k_br (fun h1 => ?_) (fun h1 => ?_)
  · have g1 := (cnd_or_t (cnd_not_t cnd_id_f) cnd_id_t) h1
    exact k_out (by exfalso; simp [hg] at g1)
  · have g1 := (cnd_or_f (cnd_not_f cnd_id_t) cnd_id_f) h1
    refine k_ff ?_
    refine k_sc (c1) ?_
    refine k_sc (c2) ?_
    refine k_br (fun h6 => ?_) (fun h6 => ?_)
    · have g6 := (cnd_not_t (cnd_and_f cnd_id_f cnd_id_f)) h6
      exact k_out (Ent.of_eq (by rw [(pr2_no g6).1, (pr2_no g6).2]))
    · have g6 := (cnd_not_f (cnd_and_t cnd_id_t cnd_id_t)) h6
      refine k_sc (c3 (sca_sel g6)) ?_
      exact k_out (Ent.of_eq (by rw [(pr2_ok g6).1, (pr2_ok g6).2, prd_2 h.G]; rfl))

theorem check2_c (b : Bas) (y r1 r2 : Int) (hw : b.gr.W) (hv : validB b = true) : Pure Tryz.prog gl0 148 [b.gr.av, .int .i64 y, .isl 1 2 fun i _ => .int .i64 (sel2 b.g1 b.g2 i), .isl 1 2 fun i _ => .int .i64 (sel2 r1 r2 i)] (.bool (chk2 b y r1 r2)) := by
  have c1 := product2_c b r1 r2 hw hv
  refine pure_sk (own := ow0) Tryz.func148 (by kernel_rfl) mixed (by kernel_rfl)
    (.sc (true) 193 ([AV.agg [Zi (Bas.gr b).1, Zi (Bas.gr b).2, Zi (Bas.gr b).3], AV.isl 1 2 fun (i x : Nat) => Zi (sel2 b.2 b.3 i), AV.isl 1 2 fun (i x : Nat) => Zi (sel2 r1 r2 i)]) (AV.tup [Zi (pr2V b r1 r2), Zi (pr2E b r1 r2)]) (.out (AV.bool (pr2E b r1 r2 == 0 && pr2V b r1 r2 == y)) [] (AV.bool (chk2 b y r1 r2)) []))
    (by kernel_rfl) ?_
  refine k_sc (c1) ?_
  exact k_out (Ent.of_eq (congrArg _ chk2_eq))

theorem check2_l (b : Bas) (y r1 r2 : Int) (hw : b.gr.W) (hv : validB b = true) : Pure Tryz.prog gl0 148 [b.gr.av, .int .i64 y, .isl 1 2 fun r k => atL (List.getD [[.int .i64 b.g1], [.int .i64 b.g2]] r []) k, .isl 1 2 fun r k => atL (List.getD [[.int .i64 r1], [.int .i64 r2]] r []) k] (.bool (chk2 b y r1 r2)) :=
  (check2_c b y r1 r2 hw hv).via ⟨Ent.refl _, Ent.refl _, sel_isl, sel_isl, trivial⟩

end Go.Proofs.YtolcfdcoidpieaaGreatDoor

namespace Go.Proofs.YtolcfdcoidpieaaGreatDoor
open Go Go.Am Go.Sp
set_option maxRecDepth 100000

theorem sright_c (b : Bas) (a k x r1 r2 : Int) (hw : b.gr.W) (hv : validB b = true) (ha : elemB b.gr a = true) (hk : 0 ≤ k ∧ k < b.gr.q) : Pure Tryz.prog gl0 74 [b.av, .int .i64 a, .int .i64 k, .agg [.int .i64 x, .int .i64 r1, .int .i64 r2]] (.bool (leafB b a k x r1 r2)) := by
  have h := validB_iff.1 hv
  have hg := validG_iff.2 h.G
  have c1 := contains_c b.gr x hw
  have c2 := gpow_c b.gr a k h.G hw ha hk
  have c3 := fun hx => gmul_c b.gr (a ^ k.toNat % b.gr.p) x h.G hw (elem_pow h.G ha _) hx
  have c4 := check2_l b (a ^ k.toNat % b.gr.p * x % b.gr.p) r1 r2 hw hv
  rw [hg, Bool.true_and] at c1
  refine pure_sk (own := ow0) Tryz.func74 (by kernel_rfl) mixed (by kernel_rfl)
    (let y0 : List AV := [Zi (Bas.gr b).1, Zi (Bas.gr b).2, Zi (Bas.gr b).3]; (.sc (true) 68 ([AV.agg y0, Zi x]) (AV.bool (elemB (Bas.gr b) x)) (.br (!elemB b.1 x) (.out (AV.bool false) [] (AV.bool (leafB b a k x r1 r2)) []) (.sc (true) 146 ([AV.agg y0, Zi a, Zi k]) (AV.tup [Zi (a ^ Int.toNat k % Grp.p (Bas.gr b)), Zi 0]) (.ff (.sc (true) 147 ([AV.agg y0, Zi (a ^ Int.toNat k % (Bas.gr b).1), Zi x]) (AV.tup [Zi (a ^ Int.toNat k % Grp.p (Bas.gr b) * x % Grp.p (Bas.gr b)), Zi 0]) (.sc (true) 148 ([AV.agg y0, Zi (a ^ Int.toNat k % (Bas.gr b).1 * x % (Bas.gr b).1), AV.isl 1 2 fun (r k : Nat) => atL (List.getD [[Zi b.2], [Zi b.3]] (r + 0) []) k, AV.isl 1 2 fun (r k : Nat) => atL (List.getD [[Zi r1], [Zi r2]] (r + 0) []) k]) (AV.bool (chk2 b (a ^ Int.toNat k % Grp.p (Bas.gr b) * x % Grp.p (Bas.gr b)) r1 r2)) (.out (AV.bool (chk2 b (a ^ Int.toNat k % (Bas.gr b).1 * x % (Bas.gr b).1) r1 r2)) [] (AV.bool (leafB b a k x r1 r2)) []))))))))
    (by kernel_rfl) ?_
  refine k_sc (c1) ?_
  refine k_br (fun h1 => ?_) (fun h1 => ?_)
  · have g1 := (cnd_not_t cnd_id_f) h1
    exact k_out (Ent.of_eq (congrArg _ (by unfold leafB; rw [g1]; rfl)))
  · have g1 := (cnd_not_f cnd_id_t) h1
    refine k_sc (c2) ?_
    refine k_ff ?_
    refine k_sc (c3 (g1)) ?_
    refine k_sc (c4) ?_
    exact k_out (Ent.of_eq (congrArg _ (by unfold leafB; rw [g1]; rfl)))

theorem r10pow_c (G : Grp) (a e : Int) (h : G.Ok) (ha : 0 ≤ a ∧ a < G.p) (he : 0 ≤ e ∧ e < G.q) : Pure Tryz.prog gl0 160 [G.av, .int .i64 a, .int .i64 e] (.int .i64 (a ^ e.toNat % G.p)) := by
  have k1 := h.p1; have k2 := h.qp; have k3 := h.p3
  have hr := rreduce_c e G.q (by omega) (by omega)
  rw [red_q he] at hr
  refine pure_sk (own := ow0) Tryz.func160 (by kernel_rfl) mixed (by kernel_rfl)
    (.sc (true) 111 ([Zi e, Zi G.2]) (Zi e) (.sc (true) 116 ([Zi a, Zi e, Zi G.1]) (Zi (a ^ Int.toNat e % G.1)) (.out (Zi (a ^ Int.toNat e % G.1)) [] (Zi (a ^ Int.toNat e % Grp.p G)) [])))
    (by kernel_rfl) ?_
  refine k_sc (hr) ?_
  refine k_sc (rpow_c (a) (e) (G.1) (by omega) (by omega) (by omega) (by omega) (by assumption)) ?_
  exact k_out (Ent.refl _)

theorem r10mul_c (G : Grp) (a c : Int) (h : G.Ok) (ha : 0 ≤ a ∧ a < G.p) (hc : 0 ≤ c ∧ c < G.p) : Pure Tryz.prog gl0 159 [G.av, .int .i64 a, .int .i64 c] (.int .i64 (a * c % G.p)) := by
  have k1 := h.p1; have k3 := h.p3
  refine pure_sk (own := ow0) Tryz.func159 (by kernel_rfl) mixed (by kernel_rfl)
    (.sc (true) 110 ([Zi a, Zi c, Zi G.1]) (Zi (a * c % G.1)) (.out (Zi (a * c % G.1)) [] (Zi (a * c % Grp.p G)) []))
    (by kernel_rfl) ?_
  refine k_sc (rmul_c (a) (c) (G.1) (by omega) (by omega) (by omega) (by omega) (by assumption)) ?_
  exact k_out (Ent.refl _)

theorem rscal31_c (G : Grp) (x : Int) : Pure Tryz.prog gl0 106 [G.av, .int .i64 x] (.bool (scaB G x)) := by
  refine pure_sk (own := ow0) Tryz.func106 (by kernel_rfl) mixed (by kernel_rfl)
    (.out (AV.bool (decide (x ≥ 0) && decide (x < G.2))) [] (AV.bool (scaB G x)) [])
    (by kernel_rfl) ?_
  exact k_out (Ent.refl _)

theorem rleaf_c (b : Bas) (a k x r1 r2 : Int) (h : b.Ok) (ha : elemB b.gr a = true) (hk : 0 ≤ k ∧ k < b.gr.q) : Pure Tryz.prog gl0 82 [b.av, .int .i64 a, .int .i64 k, .agg [.int .i64 x, .int .i64 r1, .int .i64 r2]] (.bool (leafB b a k x r1 r2)) := by
  have e1 := el_bnd h.G h.e1
  have e2 := el_bnd h.G h.e2
  have ea := el_bnd h.G ha
  refine pure_sk (own := ow0) Tryz.func82 (by kernel_rfl) mixed (by kernel_rfl)
    (let y0 : List AV := [Zi (Bas.gr b).1, Zi (Bas.gr b).2, Zi (Bas.gr b).3]; (.sc (true) 57 ([AV.agg y0, Zi x]) (AV.bool (elemB (Bas.gr b) x)) (.sc ((!elemB b.1 x) == false) 106 ([AV.agg y0, Zi r1]) (AV.bool (scaB (Bas.gr b) r1)) (.sc ((!elemB b.1 x || !scaB b.1 r1) == false) 106 ([AV.agg y0, Zi r2]) (AV.bool (scaB (Bas.gr b) r2)) (.br (!elemB b.1 x || !scaB b.1 r1 || !scaB b.1 r2) (.out (AV.bool false) [] (AV.bool (leafB b a k x r1 r2)) []) (.sc (true) 160 ([AV.agg y0, Zi b.2, Zi r1]) (Zi (b.2 ^ Int.toNat r1 % Grp.p (Bas.gr b))) (.sc (true) 160 ([AV.agg y0, Zi b.3, Zi r2]) (Zi (b.3 ^ Int.toNat r2 % Grp.p (Bas.gr b))) (.sc (true) 159 ([AV.agg y0, Zi (b.2 ^ Int.toNat r1 % (Bas.gr b).1), Zi (b.3 ^ Int.toNat r2 % (Bas.gr b).1)]) (Zi (b.2 ^ Int.toNat r1 % (Bas.gr b).1 * (b.3 ^ Int.toNat r2 % (Bas.gr b).1) % Grp.p (Bas.gr b))) (.sc (true) 160 ([AV.agg y0, Zi a, Zi k]) (Zi (a ^ Int.toNat k % Grp.p (Bas.gr b))) (.sc (true) 159 ([AV.agg y0, Zi (a ^ Int.toNat k % (Bas.gr b).1), Zi x]) (Zi (a ^ Int.toNat k % (Bas.gr b).1 * x % Grp.p (Bas.gr b))) (.out (AV.bool (b.2 ^ Int.toNat r1 % (Bas.gr b).1 * (b.3 ^ Int.toNat r2 % (Bas.gr b).1) % (Bas.gr b).1 == a ^ Int.toNat k % (Bas.gr b).1 * x % (Bas.gr b).1)) [] (AV.bool (leafB b a k x r1 r2)) [])))))))))))
    (by kernel_rfl) ?_
  refine k_sc ((member_c (Bas.gr b)) (x) (by exact h.G)) ?_
  refine k_scg (fun h1 => (rscal31_c (Bas.gr b)) (r1)) ?_
  refine k_scg (fun h2 => (rscal31_c (Bas.gr b)) (r2)) ?_
  refine k_br (fun h3 => ?_) (fun h3 => ?_)
  · have g3 := (cnd_or_t (cnd_or_t (cnd_not_t cnd_id_f) (cnd_not_t cnd_id_f)) (cnd_not_t cnd_id_f)) h3
    exact k_out (Ent.of_eq (congrArg _ (leaf_no g3).symm))
  · have g3 := (cnd_or_f (cnd_or_f (cnd_not_f cnd_id_t) (cnd_not_f cnd_id_t)) (cnd_not_f cnd_id_t)) h3
    refine k_sc ((r10pow_c (Bas.gr b)) (b.2) (r1) (by exact h.G) (by assumption) (by exact sca_iff.1 g3.1.2)) ?_
    refine k_sc ((r10pow_c (Bas.gr b)) (b.3) (r2) (by exact h.G) (by assumption) (by exact sca_iff.1 g3.2)) ?_
    refine k_sc ((r10mul_c (Bas.gr b)) (b.2 ^ Int.toNat r1 % (Bas.gr b).1) (b.3 ^ Int.toNat r2 % (Bas.gr b).1) (by exact h.G) (by exact mod_bnd h.G _) (by exact mod_bnd h.G _)) ?_
    refine k_sc ((r10pow_c (Bas.gr b)) (a) (k) (by exact h.G) (by assumption) (by assumption)) ?_
    refine k_sc ((r10mul_c (Bas.gr b)) (a ^ Int.toNat k % (Bas.gr b).1) (x) (by exact h.G) (by exact mod_bnd h.G _) (by exact el_bnd h.G g3.1.1)) ?_
    exact k_out (Ent.of_eq (congrArg _ (leaf_eq g3)))

end Go.Proofs.YtolcfdcoidpieaaGreatDoor

namespace Go.Sp
open Go Go.Am
def lbF (s : Spend) (i : Nat) : Int := s.lf i 0
def newB (s : Spend) (i : Nat) : Bool := !decide (lbF s i ∈ (List.range i).map (lbF s))
def okL (b : Bas) (s : Spend) (i : Nat) : Bool := leafB b s.a (chS b s) (s.lf i 0) (s.lf i 1) (s.lf i 2) && newB s i
def dpN (s : Spend) : Nat := (s.depth - s.level).toNat
def topF (s : Spend) : Nat → Int := treF (fun i => leafF (lbF s i)) (dpN s) 0
def hdB (b : Bas) (r : Rcd) (s : Spend) : Bool := coinV b r s.coin && nodeB s.depth s.level s.index && ctxB s.time s.number && Nat.beq s.nl (2 ^ dpN s) && s.pidx == s.index
def vfy (b : Bas) (r : Rcd) (s : Spend) : Bool := hdB b r s && allI (okL b s) s.nl && ((s.np : Int) == s.level && hEq (folF (topF s) s.pidx s.pf s.np) s.root)
theorem map_ent {os : List (Option Ob)} {n : Nat} {f : Nat → Int} : Ent os (.isl 1 n fun i _ => .int .i64 (f i)) (il .i64 ((List.range n).map f)) := by
  show Ent os _ (.isl 1 ((List.range n).map f).length _)
  rw [show ((List.range n).map f).length = n by simp]
  exact Ent.isl fun i j hi _ => congrArg (AV.int .i64) (getD_map hi).symm
theorem mem_map_r {f : Nat → Int} {n : Nat} {v : Int} : v ∈ (List.range n).map f ↔ ∃ j, j < n ∧ f j = v := by simp
theorem sz_w {s : Spend} (h : nodeB s.depth s.level s.index = true) : IntKind.wrap .i64 (1 * 2 ^ min (Int.toNat (IntKind.wrap .i64 (s.depth - s.level))) 64) = ((2 ^ dpN s : Nat) : Int) ∧ IntKind.wrap .i64 (s.depth - s.level) = s.depth - s.level ∧ dpN s ≤ 5 := by
  have k := node_t h
  have e : IntKind.wrap .i64 (s.depth - s.level) = s.depth - s.level := wI (by omega) (by omega)
  refine ⟨?_, e, by unfold dpN; omega⟩
  rw [e]
  exact shw (x := dpN s) (by unfold dpN; omega)
theorem cv_ok {b : Bas} {r : Rcd} {c : Coin} (h : coinV b r c = true) : validB b = true ∧ elemB b.gr c.a = true := by
  unfold coinV rcvB keyB verR at h
  simp only [Bool.and_eq_true] at h
  exact ⟨h.1.1.1.1.1.1.1.1.1.1.1, msg_el h.2.1.1.1.2⟩
structure HdOk (b : Bas) (r : Rcd) (s : Spend) : Prop where
  hd : hdB b r s = true
  v : validB b = true
  a : elemB b.gr s.a = true
  n : nodeB s.depth s.level s.index = true
  l : s.nl = 2 ^ dpN s
  d : dpN s ≤ 5
  lv : 0 ≤ s.level ∧ s.level ≤ 5
  ix : 0 ≤ s.pidx ∧ s.pidx < 2 ^ s.level.toNat
  n32 : s.nl ≤ 32
  lb : lvB s.nl = true
  q0 : 0 < b.gr.q
  q1 : b.gr.q < 2305843009213693952
  k : 0 ≤ chS b s ∧ chS b s < b.gr.q
  top : byB (topF s) 32
  p0 : 0 ≤ s.pidx
  p1 : s.pidx < 9223372036854775807
theorem leafF_by (x : Int) : byB (leafF x) 32 := tagI_by _ _ _
theorem hd_of {b : Bas} {r : Rcd} {s : Spend} (h : hdB b r s = true) : HdOk b r s := by
  have h0 := h
  unfold hdB at h
  simp only [Bool.and_eq_true, Nat.beq_eq, beq_iff_eq] at h
  obtain ⟨⟨⟨⟨h1, h2⟩, _⟩, h4⟩, h5⟩ := h
  have k := node_t h2
  have hd : dpN s ≤ 5 := (sz_w h2).2.2
  have hp : 2 ^ dpN s ≤ 32 := by have := pow5 (d := dpN s) (k := 0) hd; rwa [Nat.sub_zero] at this
  have hq := validB_q (cv_ok h1).1
  exact ⟨h0, (cv_ok h1).1, (cv_ok h1).2, h2, h4, hd, by omega, by rw [h5]; exact ⟨k.2.2.2.2.1, k.2.2.2.2.2⟩, by omega, by rw [h4]; exact lvB_d hd, hq.1, hq.2, chS_q hq.1,
    tre_by (n := 2 ^ dpN s) (fun i _ => leafF_by _) (dpN s) 0 (by omega), by omega, by have := (p2 (k := s.level) (by omega) (by omega)).2.2.2; omega⟩
abbrev szW (s : Spend) : Int := IntKind.wrap .i64 (1 * 2 ^ min (Int.toNat (IntKind.wrap .i64 (s.depth - s.level))) 64)
theorem hd_ok {b : Bas} {r : Rcd} {s : Spend} (h : (((coinV b r s.coin = true ∧ nodeB s.depth s.level s.index = true) ∧ ctxB s.time s.number = true) ∧ (s.nl : Int) = szW s) ∧ s.pidx = s.index) : HdOk b r s := by
  refine hd_of ?_
  obtain ⟨⟨⟨⟨h1, h2⟩, h3⟩, h4⟩, h5⟩ := h
  have h4 := h4.trans (sz_w h2).1
  have h4 : s.nl = 2 ^ dpN s := Int.ofNat.inj h4
  unfold hdB
  rw [h1, h2, h3, (Nat.beq_eq ▸ h4 : Nat.beq s.nl (2 ^ dpN s) = true), h5]
  simp
theorem vfy_h {b : Bas} {r : Rcd} {s : Spend} (h : hdB b r s = false) : vfy b r s = false := by unfold vfy; rw [h]; rfl
theorem hd_no {b : Bas} {r : Rcd} {s : Spend} (h : (((coinV b r s.coin = false ∨ nodeB s.depth s.level s.index = false) ∨ ctxB s.time s.number = false) ∨ ¬ (s.nl : Int) = szW s) ∨ ¬ s.pidx = s.index) : vfy b r s = false := by
  refine vfy_h ?_
  rcases h with (((h | h) | h) | h) | h
  · unfold hdB; simp [h]
  · unfold hdB; simp [h]
  · unfold hdB; simp [h]
  · cases hn : nodeB s.depth s.level s.index with
    | false => unfold hdB; simp [hn]
    | true =>
      have h : ¬ (s.nl : Int) = ((2 ^ dpN s : Nat) : Int) := fun e => h (e.trans (sz_w hn).1.symm)
      have : Nat.beq s.nl (2 ^ dpN s) = false := by
        rw [Bool.eq_false_iff, ne_eq, Nat.beq_eq]
        exact fun e => h (congrArg Int.ofNat e)
      unfold hdB; simp [this]
  · unfold hdB; simp [h]
theorem okL_el {b : Bas} {s : Spend} {i : Nat} (h : okL b s i = true) : elemB b.gr (lbF s i) = true := by
  unfold okL leafB at h; simp only [Bool.and_eq_true] at h; exact h.1.1
theorem okL_no {b : Bas} {s : Spend} {i : Nat} (h : leafB b s.a (chS b s) (s.lf i 0) (s.lf i 1) (s.lf i 2) = false ∨ s.lf i 0 ∈ (List.range i).map fun i => lbF s (i + 0)) : okL b s i = false := by
  unfold okL newB
  rcases h with h | h
  · rw [h]; rfl
  · have h : lbF s i ∈ (List.range i).map (lbF s) := h
    rw [decide_eq_true h]; simp
theorem okL_yes {b : Bas} {s : Spend} {i : Nat} (h : leafB b s.a (chS b s) (s.lf i 0) (s.lf i 1) (s.lf i 2) = true ∧ ¬ s.lf i 0 ∈ (List.range i).map fun i => lbF s (i + 0)) : okL b s i = true := by
  unfold okL newB
  have h' : ¬ lbF s i ∈ (List.range i).map (lbF s) := h.2
  rw [decide_eq_false h', h.1]; rfl
theorem vfy_l {b : Bas} {r : Rcd} {s : Spend} {i : Nat} (hi : i < s.nl) (h : okL b s i = false) : vfy b r s = false := by
  unfold vfy; rw [allI_f hi h]; simp
theorem vfy_t {b : Bas} {r : Rcd} {s : Spend} (hd : hdB b r s = true) (h : ∀ i, i < s.nl → okL b s i = true) : vfy b r s = ((s.np : Int) == s.level && hEq (folF (topF s) s.pidx s.pf s.np) s.root) := by
  unfold vfy; rw [hd, allI_t h]; rfl
abbrev szR (s : Spend) : Int := IntKind.wrap .i64 (spanZ s.depth s.level s.index - spanA s.depth s.level s.index)
theorem sz_r {s : Spend} (h : nodeB s.depth s.level s.index = true) : szR s = ((2 ^ dpN s : Nat) : Int) := by
  have k := node_t h
  have e : spanZ s.depth s.level s.index - spanA s.depth s.level s.index = ((2 ^ dpN s : Nat) : Int) := by
    unfold spanZ spanA
    rw [if_pos h, if_pos h, Int.add_mul, Int.one_mul, Int.natCast_pow]
    show s.index * 2 ^ dpN s + 2 ^ dpN s - s.index * 2 ^ dpN s = 2 ^ dpN s
    generalize s.index * 2 ^ dpN s = y
    omega
  have hp : 2 ^ dpN s ≤ 32 := by have := pow5 (d := dpN s) (k := 0) (sz_w h).2.2; rwa [Nat.sub_zero] at this
  unfold szR
  rw [e]
  have hi : ((2 ^ dpN s : Nat) : Int) ≤ 32 := Int.ofNat_le.2 hp
  have h0 : (0 : Int) ≤ ((2 ^ dpN s : Nat) : Int) := Int.natCast_nonneg _
  generalize ((2 ^ dpN s : Nat) : Int) = y at hi h0
  exact wI (by omega) (by omega)
theorem cv_v {b : Bas} {r : Rcd} {c : Coin} (h : validB b = false) : coinV b r c = false := by
  cases hc : coinV b r c with
  | false => rfl
  | true => rw [(cv_ok hc).1] at h; cases h
theorem rhd_no {b : Bas} {r : Rcd} {s : Spend} (h : ((validB b = false ∨ coinV b r s.coin = false) ∨ nodeB s.depth s.level s.index = false) ∨ ctxB s.time s.number = false) : vfy b r s = false := by
  refine vfy_h ?_
  rcases h with ((h | h) | h) | h
  · unfold hdB; simp [cv_v h]
  · unfold hdB; simp [h]
  · unfold hdB; simp [h]
  · unfold hdB; simp [h]
theorem rhd_ok {b : Bas} {r : Rcd} {s : Spend} (h : ((validB b = true ∧ coinV b r s.coin = true) ∧ nodeB s.depth s.level s.index = true) ∧ ctxB s.time s.number = true) (h' : ((s.nl : Int) = szR s ∧ s.pidx = s.index) ∧ (s.np : Int) = s.level) : HdOk b r s :=
  hd_ok ⟨⟨⟨⟨h.1.1.2, h.1.2⟩, h.2⟩, h'.1.1.trans ((sz_r h.1.2).trans (sz_w h.1.2).1.symm)⟩, h'.1.2⟩
theorem vfy_n {b : Bas} {r : Rcd} {s : Spend} (h : ¬ (s.np : Int) = s.level) : vfy b r s = false := by
  unfold vfy
  rw [show ((s.np : Int) == s.level) = false by simpa using h]
  simp
theorem rhd_no2 {b : Bas} {r : Rcd} {s : Spend} (h : ((validB b = true ∧ coinV b r s.coin = true) ∧ nodeB s.depth s.level s.index = true) ∧ ctxB s.time s.number = true) (h' : (¬ (s.nl : Int) = szR s ∨ ¬ s.pidx = s.index) ∨ ¬ (s.np : Int) = s.level) : vfy b r s = false := by
  rcases h' with (h' | h') | h'
  · exact hd_no (.inl (.inr fun e => h' (e.trans ((sz_w h.1.2).1.trans (sz_r h.1.2).symm))))
  · exact hd_no (.inr h')
  · exact vfy_n h'
theorem vfy_r {b : Bas} {r : Rcd} {s : Spend} (hd : hdB b r s = true) (hn : (s.np : Int) = s.level) (h : ∀ i, i < s.nl → okL b s i = true) : vfy b r s = hEq (folF (topF s) s.pidx s.pf s.np) s.root := by
  rw [vfy_t hd h, show ((s.np : Int) == s.level) = true by simpa using hn]; rfl
theorem okL_n {b : Bas} {s : Spend} {i : Nat} (h : leafB b s.a (chS b s) (s.lf i 0) (s.lf i 1) (s.lf i 2) = true) (hk : ∀ j, j < i → ¬ lbF s j = lbF s i) : okL b s i = true :=
  okL_yes ⟨h, fun e => by
    obtain ⟨j, hj, e⟩ := (mem_map_r (f := fun i => lbF s (i + 0))).1 e
    exact hk j hj e⟩
theorem okL_l {b : Bas} {s : Spend} {i : Nat} (h : leafB b s.a (chS b s) (s.lf i 0) (s.lf i 1) (s.lf i 2) = false) : okL b s i = false := okL_no (.inl h)
theorem okL_m {b : Bas} {s : Spend} {i j : Nat} (hj : j < i) (h : s.lf j 0 = s.lf i 0) : okL b s i = false := okL_no (.inr (mem_map_r.2 ⟨j, hj, h⟩))
theorem ne_next {f : Nat → Int} {v : Int} {i : Nat} (h : ∀ j, j < i → ¬ f j = v) (hi : ¬ f i = v) : ∀ j, j < i + 1 → ¬ f j = v := fun j hj => by
  by_cases e : j = i
  · subst e; exact hi
  · exact h j (by omega)
end Go.Sp

namespace Go.Proofs.YtolcfdcoidpieaaGreatDoor
open Go Go.Am Go.Sp
set_option maxRecDepth 100000

theorem containsF_c (n : Nat) (f : Nat → Int) (v : Int) (hn : n ≤ 1000) : Pure Tryz.prog gl0 75 [.isl 1 n fun i _ => .int .i64 (f i), .int .i64 v] (.bool (decide (v ∈ (List.range n).map f))) :=
  (containsN_c ((List.range n).map f) v (by simp; omega)).via ⟨map_ent, Ent.refl _, trivial⟩

theorem tverS_c (r h : Nat → Int) (i l : Int) (n : Nat) (P : Nat → Nat → Int) (hl : 0 ≤ l ∧ l ≤ 5) (hn : n ≤ 1000000) (hi : 0 ≤ i ∧ i < 2 ^ l.toNat) (hh : byB h 32) (hP : ∀ k, k < n → byB (P k) 32) :
    Pure Tryz.prog gl0 78 [.agg (u8c r), .agg (u8c h), .int .i64 l, .agg [.int .i64 i, hsl n P]] (.bool ((n : Int) == l && hEq (folF h i P n) r)) := by
  obtain ⟨m, rfl⟩ : ∃ m : Nat, l = m := ⟨l.toNat, by omega⟩
  have hi2 : i < ((2 ^ m : Nat) : Int) := by
    have := hi.2
    rw [show (m : Int).toNat = m by omega] at this
    rw [Int.natCast_pow]
    exact this
  by_cases e : n = m
  · subst e
    rw [show ((n : Int) == (n : Int)) = true by simp, Bool.true_and]
    exact tver_ok r h i n P (by omega) hi.1 hi2 hh hP
  · rw [show ((n : Int) == (m : Int)) = false by simp; omega, Bool.false_and]
    exact tver_no r h i m n P (by omega) e hn hi.1 hi2

theorem trootS_c (n d : Nat) (h : Nat → Nat → Int) (hn : n = 2 ^ d) (hd : d ≤ 5) (hb : ∀ i, i < n → byB (h i) 32) : Pure Tryz.prog gl0 77 [hsl n h] (.tup [.agg (u8c (treF h d 0)), .int .i64 0]) := by
  subst hn
  exact troot_c d hd h hb

theorem vfy_c (b : Bas) (r : Rcd) (s : Spend) (hw : b.gr.W) (hr : byB s.root 32) (hp : byB s.payee 32) (hf : ∀ k, k < s.np → byB (s.pf k) 32) (hn : s.np ≤ 1000000) (hl : s.nl ≤ 1000) : Pure Tryz.prog gl0 37 [b.av, r.av, s.av] (.bool (vfy b r s)) := by
  have c1 := cval_c b r s.coin hw hr
  have c2 := node_c s.depth s.level s.index
  have c3 := context_c s.cxt
  have c4 := chal_c b s.coin s.level s.index s.cxt hr hp
  have c5 := fun x r1 r2 hv ha hk => sright_c b s.a (chS b s) x r1 r2 hw hv ha hk
  have c6 := fun N h1 h2 h3 h4 => chash_n b N h1 h2 (lbF s) hw h3 h4
  have c7 := fun n h1 h2 h3 => trootS_c n (dpN s) (fun i => leafF (lbF s i)) h1 h2 h3
  have c8 := fun h1 h2 h3 => tverS_c s.root (topF s) s.pidx s.level s.np s.pf h1 hn h2 h3 hf
  refine pure_sk (own := ow0) Tryz.func37 (by kernel_rfl) mixed (by kernel_rfl)
    (.sc (true) 70 ([AV.agg (Bas.cells b), AV.agg (Rcd.cells r), AV.agg (Zi s.1 :: Zi s.2 :: Zi s.3 :: Zi s.4 :: Zi s.5 :: (u8c s.6 ++ [Zi s.7, Zi s.8, Zi s.9, Zi s.10]))]) (AV.bool (coinV b r (Spend.coin s))) (.sc ((!coinV b r (Spend.coin s)) == false) 71 ([Zi s.4, AV.agg [Zi s.11, Zi s.12]]) (AV.bool (nodeB (Spend.depth s) (Spend.level s) (Spend.index s))) (.sc ((!coinV b r (Spend.coin s) || !nodeB s.4 s.11 s.12) == false) 72 ([AV.agg (u8c s.13 ++ [Zi s.14, Zi s.15])]) (AV.bool (ctxB (Cxt.time (Spend.cxt s)) (Cxt.number (Spend.cxt s)))) (.req (((!coinV b r (Spend.coin s) || !nodeB s.4 s.11 s.12 || !ctxB s.14 s.15) == false) = true → (0 : Int) ≤ IntKind.wrap IntKind.i64 (s.4 - s.11)) (.br (!coinV b r (Spend.coin s) || !nodeB s.4 s.11 s.12 || !ctxB s.14 s.15 || (↑s.16 : Int) != IntKind.wrap IntKind.i64 ((1 : Int) * (2 : Int) ^ min (Int.toNat (IntKind.wrap IntKind.i64 (s.4 - s.11))) (64)) || s.18 != s.12) (.out (AV.bool false) [] (AV.bool (vfy b r s)) []) (.sc (true) 73 ([AV.agg (Bas.cells b), AV.agg (Zi s.1 :: Zi s.2 :: Zi s.3 :: Zi s.4 :: Zi s.5 :: (u8c s.6 ++ [Zi s.7, Zi s.8, Zi s.9, Zi s.10])), AV.agg [Zi s.11, Zi s.12], AV.agg (u8c s.13 ++ [Zi s.14, Zi s.15])]) (Zi (chalN (Grp.q (Bas.gr b)) (Spend.coin s) (Spend.level s) (Spend.index s) (Spend.cxt s))) (.loop ({ x : Nat // x ≤ Spend.nl s ∧ (fun (x : Nat) => ∀ (j : Nat), j < x → okL b s j = true) x }) (fun (x : { x : Nat // x ≤ Spend.nl s ∧ (fun (x : Nat) => ∀ (j : Nat), j < x → okL b s j = true) x }) => mkSt [2, 3, 5, 7, 67, 68, 8, 69] [AV.agg (Spend.cells s), AV.own (0) (6) (0) (0) (6), AV.own (1) (80) (0) (0) (80), Zi (chalN (Bas.gr b).2 (Spend.coin s) s.11 s.12 (Spend.cxt s)), AV.isl (3) s.16 fun (i j : Nat) => Zi (s.17 i j), Zi (↑s.16 : Int), AV.osl (2 : Nat) (1 : Nat) (0 : Nat) (x.1), Zi (↑(x.1) : Int)] [some ⟨6, 1, true, Rep.lst [Bas.cells b]⟩, some ⟨80, 1, true, Rep.lst [Spend.cells s]⟩, some ⟨(1 : Nat), x.1, true, Rep.fn fun (i x : Nat) => Zi (lbF s i)⟩]) (fun (x : { x : Nat // x ≤ Spend.nl s ∧ (fun (x : Nat) => ∀ (j : Nat), j < x → okL b s j = true) x }) => Spend.nl s - x.1) (⟨(0 : Nat), ⟨Nat.zero_le (Spend.nl s), fun (j : Nat) (hj : j < (0 : Nat)) => absurd hj (Nat.not_lt_zero j)⟩⟩) ([2, 3, 5, 7, 67, 68, 8, 69]) ([0, 16, 754]) ([AV.agg (Spend.cells s), AV.own (0) (6) (0) (0) (6), AV.own (1) (80) (0) (0) (80), Zi (chalN (Bas.gr b).2 (Spend.coin s) s.11 s.12 (Spend.cxt s)), AV.isl (3) s.16 fun (i j : Nat) => Zi (s.17 i j), Zi (↑s.16 : Int), AV.nsl, Zi 0]) ([some ⟨6, 1, true, Rep.lst [Bas.cells b]⟩, some ⟨80, 1, true, Rep.lst [Spend.cells s]⟩, some ⟨1, 0, true, Rep.lst []⟩]) (fun x7 => (.br (decide ((↑x7.1 : Int) < (↑s.16 : Int))) (.req ((0 : Int) ≤ (↑x7.1 : Int) ∧ (↑x7.1 : Int) < (↑s.16 : Int)) (.sc (true) 74 ([AV.agg (Bas.cells b), Zi s.5, Zi (chalN (Bas.gr b).2 (Spend.coin s) s.11 s.12 (Spend.cxt s)), AV.agg [Zi (s.17 (Int.toNat (↑x7.1 : Int)) (0)), Zi (s.17 (Int.toNat (↑x7.1 : Int)) (1)), Zi (s.17 (Int.toNat (↑x7.1 : Int)) (2))]]) (AV.bool (leafB b (Spend.a s) (chS b s) (s.17 (Int.toNat (↑x7.1 : Int)) (0)) (s.17 (Int.toNat (↑x7.1 : Int)) (1)) (s.17 (Int.toNat (↑x7.1 : Int)) (2)))) (.sc ((!leafB b s.5 (chS b s) (s.17 (Int.toNat (↑x7.1 : Int)) (0)) (s.17 (Int.toNat (↑x7.1 : Int)) (1)) (s.17 (Int.toNat (↑x7.1 : Int)) (2))) == false) 75 ([AV.isl (1) x7.1 fun (r k : Nat) => Zi (lbF s (r + 0)), Zi (s.17 (Int.toNat (↑x7.1 : Int)) (0))]) (AV.bool (decide (s.17 (Int.toNat (↑x7.1 : Int)) (0) ∈ List.map (fun (i : Nat) => lbF s (i + 0)) (List.range x7.1)))) (.br (!leafB b s.5 (chS b s) (s.17 (Int.toNat (↑x7.1 : Int)) (0)) (s.17 (Int.toNat (↑x7.1 : Int)) (1)) (s.17 (Int.toNat (↑x7.1 : Int)) (2)) || decide (s.17 (Int.toNat (↑x7.1 : Int)) (0) ∈ List.map (fun (i : Nat) => lbF s (i + 0)) (List.range x7.1))) (.out (AV.bool false) [] (AV.bool (vfy b r s)) []) (.req ((x7.1 + 1) * 8 ≤ 140737488355328) (.again (Again (0) (fun (x : { x : Nat // x ≤ Spend.nl s ∧ (fun (x : Nat) => ∀ (j : Nat), j < x → okL b s j = true) x }) => mkSt [2, 3, 5, 7, 67, 68, 8, 69] [AV.agg (Spend.cells s), AV.own (0) (6) (0) (0) (6), AV.own (1) (80) (0) (0) (80), Zi (chalN (Bas.gr b).2 (Spend.coin s) s.11 s.12 (Spend.cxt s)), AV.isl (3) s.16 fun (i j : Nat) => Zi (s.17 i j), Zi (↑s.16 : Int), AV.osl (2 : Nat) (1 : Nat) (0 : Nat) (x.1), Zi (↑(x.1) : Int)] [some ⟨6, 1, true, Rep.lst [Bas.cells b]⟩, some ⟨80, 1, true, Rep.lst [Spend.cells s]⟩, some ⟨(1 : Nat), x.1, true, Rep.fn fun (i x : Nat) => Zi (lbF s i)⟩]) (fun (x : { x : Nat // x ≤ Spend.nl s ∧ (fun (x : Nat) => ∀ (j : Nat), j < x → okL b s j = true) x }) => Spend.nl s - x.1) x7) ([2, 3, 5, 7, 67, 68, 8, 69]) ([0, 1, 187]) ([AV.agg (Spend.cells s), AV.own (0) (6) (0) (0) (6), AV.own (1) (80) (0) (0) (80), Zi (chalN (Bas.gr b).2 (Spend.coin s) s.11 s.12 (Spend.cxt s)), AV.isl (3) s.16 fun (i j : Nat) => Zi (s.17 i j), Zi (↑s.16 : Int), AV.osl (2) (1) (0) (x7.1 + 1), Zi (IntKind.wrap IntKind.i64 ((↑x7.1 : Int) + (1 : Int)))]) ([some ⟨6, 1, true, Rep.lst [Bas.cells b]⟩, some ⟨80, 1, true, Rep.lst [Spend.cells s]⟩, some ⟨1, x7.1 + 1, true, Rep.fn fun (i j : Nat) => Zi (bif Nat.blt i x7.1 then lbF s i else intOfAV (atL [Zi (s.17 (Int.toNat (↑(x7.1) : Int)) (0))] j))⟩]))))))) (.dc (true) 76 ([AV.agg (Bas.cells b), AV.isl (1) x7.1 fun (r k : Nat) => Zi (lbF s (r + 0))]) (AV.tup [hsl x7.1 fun (i : Nat) => leafF (lbF s i), Zi 0]) (.ff (.sc (true) 77 ([AV.isl (32) x7.1 fun (i j : Nat) => Zb (leafF (lbF s i) j)]) (AV.tup [AV.agg (u8c (treF (fun (i : Nat) => leafF (lbF s i)) (dpN s) (0 : Nat))), Zi 0]) (.sc (true) 78 ([AV.agg (u8c s.6), AV.agg (u8c (treF (fun (i : Nat) => leafF (lbF s i)) (dpN s) (0))), Zi s.11, AV.agg [Zi s.18, AV.isl (32) s.19 fun (i j : Nat) => Zb (s.20 i j)]]) (AV.bool ((↑(Spend.np s) : Int) == Spend.level s && hEq (folF (topF s) (Spend.pidx s) (Spend.pf s) (Spend.np s)) (Spend.root s))) (.out (AV.bool ((↑s.19 : Int) == s.11 && hEq (folF (topF s) s.18 s.20 s.19) s.6)) [] (AV.bool (vfy b r s)) []))))))))))))))
    (by kernel_rfl) ?_
  refine k_sc (c1) ?_
  refine k_scg (fun h1 => c2) ?_
  refine k_scg (fun h2 => c3) ?_
  refine k_req (fun hr => by have hr := (cnd_eqf_t (cnd_or_f (cnd_or_f (cnd_not_f cnd_id_t) (cnd_not_f cnd_id_t)) (cnd_not_f cnd_id_t))) hr; have k := node_t hr.1.2; have e := (sz_w hr.1.2).2.1; rw [e]; omega) ?_
  refine k_br (fun h4 => ?_) (fun h4 => ?_)
  · have g4 := (cnd_or_t (cnd_or_t (cnd_or_t (cnd_or_t (cnd_not_t cnd_id_f) (cnd_not_t cnd_id_f)) (cnd_not_t cnd_id_f)) cnd_bne_t) cnd_bne_t) h4
    exact k_out (Ent.of_eq (congrArg _ (hd_no g4).symm))
  · have g4 := (cnd_or_f (cnd_or_f (cnd_or_f (cnd_or_f (cnd_not_f cnd_id_t) (cnd_not_f cnd_id_t)) (cnd_not_f cnd_id_t)) cnd_bne_f) cnd_bne_f) h4
    refine k_sc (c4 (by (cases hd_ok g4; assumption)) (by (cases hd_ok g4; assumption))) ?_
    refine k_loop (fun _ hs => hs.le (by repeat' (first | exact trivial | (first | exact Ent.refl _ | exact inc_ent (by omega) | exact Ent.nil rfl | exact Ent.of_eq (congrArg (AV.osl _ _ _) (by first | omega | (dsimp only; omega))) | exact Ent.of_eq (congrArg (AV.int _) (by first | omega | (dsimp only; omega)))) | refine And.intro ?_ ?_)) (by repeat' (first | exact trivial | (first | exact ObEnt.refl _ | exact ObEnt.junk | exact ObEnt.zero | exact ObEnt.push rfl rfl | exact ObEnt.pushRow rfl | exact ObEnt.len (by omega) | exact ObEnt.row (by repeat' (first | exact trivial | (first | exact Ent.refl _ | exact inc_ent (by omega) | exact Ent.nil rfl | exact Ent.of_eq (congrArg (AV.osl _ _ _) (by first | omega | (dsimp only; omega))) | exact Ent.of_eq (congrArg (AV.int _) (by first | omega | (dsimp only; omega)))) | refine And.intro ?_ ?_))) | refine And.intro ?_ ?_))) (fun x7 => ?_)
    try (have q7 := x7.2; dsimp only at q7)
    refine k_br (fun h8 => ?_) (fun h8 => ?_)
    · have g8 := cnd_dec_t h8
      refine k_req (by omega) ?_
      refine k_sc (c5 (s.17 (Int.toNat (↑x7.1 : Int)) (0)) (s.17 (Int.toNat (↑x7.1 : Int)) (1)) (s.17 (Int.toNat (↑x7.1 : Int)) (2)) (by (cases hd_ok g4; assumption)) (by (cases hd_ok g4; assumption)) (by (cases hd_ok g4; assumption))) ?_
      refine k_scg (fun h11 => containsF_c (x7.1) (fun (i : Nat) => lbF s (i + 0)) (s.17 (Int.toNat (↑x7.1 : Int)) (0)) (by omega)) ?_
      refine k_br (fun h12 => ?_) (fun h12 => ?_)
      · have g12 := (cnd_or_t (cnd_not_t cnd_id_f) cnd_dec_t) h12
        try simp only [Int.toNat_natCast] at g12
        exact k_out (Ent.of_eq (congrArg _ (vfy_l (by omega) (okL_no g12)).symm))
      · have g12 := (cnd_or_f (cnd_not_f cnd_id_t) cnd_dec_f) h12
        try simp only [Int.toNat_natCast] at g12
        refine k_req (by omega) ?_
        exact k_again (⟨x7.1 + 1, by omega, all_next x7.2.2 (okL_yes g12)⟩) (fun _ hs => hs.le (by repeat' (first | exact trivial | (first | exact Ent.refl _ | exact inc_ent (by omega) | exact Ent.nil rfl | exact Ent.of_eq (congrArg (AV.osl _ _ _) (by first | omega | (dsimp only; omega))) | exact Ent.of_eq (congrArg (AV.int _) (by first | omega | (dsimp only; omega)))) | refine And.intro ?_ ?_)) (by repeat' (first | exact trivial | (first | exact ObEnt.refl _ | exact ObEnt.junk | exact ObEnt.zero | exact ObEnt.push rfl rfl | exact ObEnt.pushRow rfl | exact ObEnt.len (by omega) | exact ObEnt.row (by repeat' (first | exact trivial | (first | exact Ent.refl _ | exact inc_ent (by omega) | exact Ent.nil rfl | exact Ent.of_eq (congrArg (AV.osl _ _ _) (by first | omega | (dsimp only; omega))) | exact Ent.of_eq (congrArg (AV.int _) (by first | omega | (dsimp only; omega)))) | refine And.intro ?_ ?_))) | refine And.intro ?_ ?_))) (by (dsimp only; omega))
    · have g8 := cnd_dec_f h8
      refine k_dc (c6 (x7.1) (by (cases hd_ok g4; rw [show x7.1 = s.nl by omega]; assumption)) (by (cases hd_ok g4; rw [show x7.1 = s.nl by omega]; assumption)) (by (cases hd_ok g4; assumption)) (by exact fun i hi => okL_el (x7.2.2 i hi))) ?_
      refine k_ff ?_
      refine k_sc (c7 (x7.1) (by (cases hd_ok g4; rw [show x7.1 = s.nl by omega]; assumption)) (by (cases hd_ok g4; assumption)) (by exact fun i _ => leafF_by _)) ?_
      refine k_sc (c8 (by (cases hd_ok g4; assumption)) (by (cases hd_ok g4; assumption)) (by (cases hd_ok g4; assumption))) ?_
      exact k_out (Ent.of_eq (congrArg _ (vfy_t (hd_ok g4).hd (fun i hi => x7.2.2 i (by omega))).symm))

end Go.Proofs.YtolcfdcoidpieaaGreatDoor
