/- Part of the proof: WZ10, WZ11, WZ12, WZ13, WZ14, WZ15, WZ16, WZ17, WZ18, OR3, OY1, OY2, OY3, Sup, EnSet, EnSet2. -/
import Derived.Test.YtbmdmoknnlhdoaaGreatDoorM4
import Derived.Test.YtbmdmoknnlhdoaaGreatDoorProg
import Derived.Test.YtbmdmoknnlhdoaaGreatDoorM3
import Derived.Shelf.Strings.BuilderK
import Derived.Lib.AppendIntMem
import Derived.Lib.ItoaLen
namespace Go.Proofs.YtbmdmoknnlhdoaaGreatDoor.Z
open Go Go.Am Go.Sp
set_option maxRecDepth 100000

def ow1 : FuncId → Option (List Bool) := fun f => bif Nat.beq f 141 then some [false] else none

theorem cloneB2_n : Gives Tryz.prog gl0 141 [] [.nsl] .nsl [] := by
  refine gives_sk (own := ow0) (hand := true) Tryz.func141 (by kernel_rfl) mixed (by kernel_rfl)
    (.tt (.out (AV.nsl) [] (AV.nsl) []))
    (by kernel_rfl) ?_
  refine k_tt ?_
  exact k_out (Ent.refl _)
theorem cloneB2_s (f : Nat → Int) (n : Nat) (hn : n ≤ 1099511627776) : Gives Tryz.prog gl0 141 [] [.nn (bys n f)] (.osl 0 1 0 n) [some ⟨1, n, true, .fn fun i _ => .int .u8 (f i)⟩] := by
  refine gives_sk (own := ow0) (hand := true) Tryz.func141 (by kernel_rfl) mixed (by kernel_rfl)
    (.ff (.req ((0 + n) * 1 ≤ 140737488355328) (.out (AV.osl (0) (1) (0) (0 + n)) ([some { es := 1, n := 0 + n, mu := true, f := Rep.fn fun (i j : Nat) => Zb (f i) }]) (AV.osl (0 : Nat) (1 : Nat) (0 : Nat) n) ([some { es := (1 : Nat), n := n, mu := true, f := Rep.fn fun (i x : Nat) => Zb (f i) }]))))
    (by kernel_rfl) ?_
  refine k_ff ?_
  refine k_req (by omega) ?_
  exact k_outg (Ent.of_eq (by simp)) (⟨⟨rfl, by simp, rfl, fun i j _ _ => Ent.of_eq (by simp)⟩, trivial⟩)
theorem cloneB2_c (f : Nat → Int) (n : Nat) (hn : n ≤ 1099511627776) : Gives Tryz.prog gl0 141 [] [bys n f] (.osl 0 1 0 n) [some ⟨1, n, true, .fn fun i _ => .int .u8 (f i)⟩] :=
  Gives.nilSplit [] [] 1 n _ (fun h => by subst h; exact cloneB2_n.nil 1 _) (cloneB2_s f n hn)

theorem sum_r (f : Nat → Int) (n : Nat) (hn : n ≤ 1099511627776) (p : Nat → Int) (ST : Nat → Nat → Int) (hp : p = padF n f) (h0 : ST 0 = stF)
    (hmix : ∀ (k : Nat) (q : Nat → Int), (∀ i, i < 64 → q i = p (64 * k + i)) → Pure Tryz.prog gl0 185 [.agg ((List.range 8).map fun j => .int .u32 (ST k j)), bys 64 q] (.agg ((List.range 8).map fun j => .int .u32 (ST (k + 1) j)))) :
    Pure Tryz.prog gl0 140 [bys n f] (.agg (u8c (outF (ST (padLen n / 64))))) := by
  have pl := pad_len n
  refine pure_sk (own := ow1) Tryz.func140 (by kernel_rfl) mixed (by kernel_rfl)
    (.gc 141 ([]) ([AV.isl (1) n fun (i x : Nat) => Zb (f i)]) (AV.osl (0 : Nat) (1 : Nat) (0 : Nat) n) ([some { es := (1 : Nat), n := n, mu := true, f := Rep.fn fun (i x : Nat) => Zb (f i) }]) (.req ((n + 1) * 1 ≤ 140737488355328) (.loop ({ x : Nat // x ≤ padLen n - n - (9 : Nat) }) (fun (x : { x : Nat // x ≤ padLen n - n - (9 : Nat) }) => mkSt [0, 2, 3] [AV.isl (1) n fun (i x : Nat) => Zb (f i), AV.own (0) (32) (0) (0) (32), AV.osl (1 : Nat) (1 : Nat) (0 : Nat) (n + (1 : Nat) + x.1)] [some { es := 32, n := 1, mu := true, f := Rep.lst [[Zb 0, Zb 0, Zb 0, Zb 0, Zb 0, Zb 0, Zb 0, Zb 0, Zb 0, Zb 0, Zb 0, Zb 0, Zb 0, Zb 0, Zb 0, Zb 0, Zb 0, Zb 0, Zb 0, Zb 0, Zb 0, Zb 0, Zb 0, Zb 0, Zb 0, Zb 0, Zb 0, Zb 0, Zb 0, Zb 0, Zb 0, Zb 0]] }, some { es := (1 : Nat), n := n + (1 : Nat) + x.1, mu := true, f := Rep.fn fun (i x : Nat) => Zb (pad0 n f i) }]) (fun (x : { x : Nat // x ≤ padLen n - n - (9 : Nat) }) => padLen n - n - (9 : Nat) - x.1) (⟨(0 : Nat), Nat.zero_le (padLen n - n - (9 : Nat))⟩) ([0, 2, 3]) ([0, 32]) ([AV.isl (1) n fun (i x : Nat) => Zb (f i), AV.own (0) (32) (0) (0) (32), AV.osl (1) (1) (0) (n + 1)]) ([some { es := 32, n := 1, mu := true, f := Rep.lst [[Zb 0, Zb 0, Zb 0, Zb 0, Zb 0, Zb 0, Zb 0, Zb 0, Zb 0, Zb 0, Zb 0, Zb 0, Zb 0, Zb 0, Zb 0, Zb 0, Zb 0, Zb 0, Zb 0, Zb 0, Zb 0, Zb 0, Zb 0, Zb 0, Zb 0, Zb 0, Zb 0, Zb 0, Zb 0, Zb 0, Zb 0, Zb 0]] }, some { es := 1, n := n + 1, mu := true, f := Rep.fn fun (i j : Nat) => Zb (bif Nat.blt i n then f i else intOfAV (atL [Zb 128] j)) }]) (fun x2 => (.br (Int.tmod (↑(n + 1 + x2.1) : Int) (64 : Int) != (56 : Int)) (.req ((n + 1 + x2.1 + 1) * 1 ≤ 140737488355328) (.again (Again (0) (fun (x : { x : Nat // x ≤ padLen n - n - (9 : Nat) }) => mkSt [0, 2, 3] [AV.isl (1) n fun (i x : Nat) => Zb (f i), AV.own (0) (32) (0) (0) (32), AV.osl (1 : Nat) (1 : Nat) (0 : Nat) (n + (1 : Nat) + x.1)] [some { es := 32, n := 1, mu := true, f := Rep.lst [[Zb 0, Zb 0, Zb 0, Zb 0, Zb 0, Zb 0, Zb 0, Zb 0, Zb 0, Zb 0, Zb 0, Zb 0, Zb 0, Zb 0, Zb 0, Zb 0, Zb 0, Zb 0, Zb 0, Zb 0, Zb 0, Zb 0, Zb 0, Zb 0, Zb 0, Zb 0, Zb 0, Zb 0, Zb 0, Zb 0, Zb 0, Zb 0]] }, some { es := (1 : Nat), n := n + (1 : Nat) + x.1, mu := true, f := Rep.fn fun (i x : Nat) => Zb (pad0 n f i) }]) (fun (x : { x : Nat // x ≤ padLen n - n - (9 : Nat) }) => padLen n - n - (9 : Nat) - x.1) x2) ([0, 2, 3]) ([0, 50]) ([AV.isl (1) n fun (i x : Nat) => Zb (f i), AV.own (0) (32) (0) (0) (32), AV.osl (1) (1) (0) (n + 1 + x2.1 + 1)]) ([some { es := 32, n := 1, mu := true, f := Rep.lst [[Zb 0, Zb 0, Zb 0, Zb 0, Zb 0, Zb 0, Zb 0, Zb 0, Zb 0, Zb 0, Zb 0, Zb 0, Zb 0, Zb 0, Zb 0, Zb 0, Zb 0, Zb 0, Zb 0, Zb 0, Zb 0, Zb 0, Zb 0, Zb 0, Zb 0, Zb 0, Zb 0, Zb 0, Zb 0, Zb 0, Zb 0, Zb 0]] }, some { es := 1, n := n + 1 + x2.1 + 1, mu := true, f := Rep.fn fun (i j : Nat) => Zb (bif Nat.blt i (n + 1 + x2.1) then pad0 n f i else intOfAV (atL [Zb 0] j)) }]))) (.dc (true) 184 ([Zu (IntKind.wrap IntKind.u64 ((8 : Int) * IntKind.wrap IntKind.u64 (↑n : Int)))]) (bys (8 : Nat) (be8 (IntKind.wrap IntKind.u64 ((8 : Int) * IntKind.wrap IntKind.u64 (↑n : Int))))) (.req ((n + 1 + x2.1 + 8) * 1 ≤ 140737488355328) (.loop ({ x : Nat // x ≤ padLen n / (64 : Nat) }) (fun (x : { x : Nat // x ≤ padLen n / (64 : Nat) }) => mkSt [2, 4, 3] [AV.own (0) (32) (0) (0) (32), AV.own (1) (8) (0) (0) (8), AV.osl (2 : Nat) (1 : Nat) ((64 : Nat) * x.1) (padLen n - (64 : Nat) * x.1)] [some { es := 32, n := 1, mu := true, f := Rep.lst [[Zb 0, Zb 0, Zb 0, Zb 0, Zb 0, Zb 0, Zb 0, Zb 0, Zb 0, Zb 0, Zb 0, Zb 0, Zb 0, Zb 0, Zb 0, Zb 0, Zb 0, Zb 0, Zb 0, Zb 0, Zb 0, Zb 0, Zb 0, Zb 0, Zb 0, Zb 0, Zb 0, Zb 0, Zb 0, Zb 0, Zb 0, Zb 0]] }, some { es := (8 : Nat), n := (1 : Nat), mu := true, f := Rep.lst [List.map (fun (j : Nat) => Zw (ST (x.1) j)) (List.range (8 : Nat))] }, some { es := (1 : Nat), n := padLen n, mu := true, f := Rep.fn fun (i x : Nat) => Zb (p i) }]) (fun (x : { x : Nat // x ≤ padLen n / (64 : Nat) }) => padLen n / (64 : Nat) - x.1) (⟨(0 : Nat), Nat.zero_le (padLen n / (64 : Nat))⟩) ([2, 4, 3]) ([0, 106, 82]) ([AV.own (0) (32) (0) (0) (32), AV.own (1) (8) (0) (0) (8), AV.osl (2) (1) (0) (n + 1 + x2.1 + 8)]) ([some { es := 32, n := 1, mu := true, f := Rep.lst [[Zb 0, Zb 0, Zb 0, Zb 0, Zb 0, Zb 0, Zb 0, Zb 0, Zb 0, Zb 0, Zb 0, Zb 0, Zb 0, Zb 0, Zb 0, Zb 0, Zb 0, Zb 0, Zb 0, Zb 0, Zb 0, Zb 0, Zb 0, Zb 0, Zb 0, Zb 0, Zb 0, Zb 0, Zb 0, Zb 0, Zb 0, Zb 0]] }, some { es := 8, n := 1, mu := true, f := Rep.lst [[Zw (stF (0)), Zw (stF (1)), Zw (stF (2)), Zw (stF (3)), Zw (stF (4)), Zw (stF (5)), Zw (stF (6)), Zw (stF (7))]] }, some { es := 1, n := n + 1 + x2.1 + 8, mu := true, f := Rep.fn fun (i j : Nat) => Zb (bif Nat.blt i (n + 1 + x2.1) then pad0 n f i else be8 (IntKind.wrap IntKind.u64 ((8 : Int) * IntKind.wrap IntKind.u64 (↑n : Int))) (i - (n + 1 + x2.1))) }]) (fun x8 => (.br (decide ((↑(padLen n - 64 * x8.1) : Int) > (0 : Int))) (.req ((0 : Int) ≤ (64 : Int) ∧ (64 : Int) ≤ (↑(padLen n - 64 * x8.1) : Int)) (.sc (true) 185 ([AV.agg [Zw (ST x8.1 (0)), Zw (ST x8.1 (1)), Zw (ST x8.1 (2)), Zw (ST x8.1 (3)), Zw (ST x8.1 (4)), Zw (ST x8.1 (5)), Zw (ST x8.1 (6)), Zw (ST x8.1 (7))], AV.isl (1) (64) fun (r k : Nat) => Zb (p (r + (0 + 64 * x8.1)))]) (AV.agg (List.map (fun (j : Nat) => Zw (ST (x8.1 + (1 : Nat)) j)) (List.range (8 : Nat)))) (.req ((0 : Int) ≤ (64 : Int) ∧ (64 : Int) ≤ (↑(padLen n - 64 * x8.1) : Int)) (.again (Again (0) (fun (x : { x : Nat // x ≤ padLen n / (64 : Nat) }) => mkSt [2, 4, 3] [AV.own (0) (32) (0) (0) (32), AV.own (1) (8) (0) (0) (8), AV.osl (2 : Nat) (1 : Nat) ((64 : Nat) * x.1) (padLen n - (64 : Nat) * x.1)] [some { es := 32, n := 1, mu := true, f := Rep.lst [[Zb 0, Zb 0, Zb 0, Zb 0, Zb 0, Zb 0, Zb 0, Zb 0, Zb 0, Zb 0, Zb 0, Zb 0, Zb 0, Zb 0, Zb 0, Zb 0, Zb 0, Zb 0, Zb 0, Zb 0, Zb 0, Zb 0, Zb 0, Zb 0, Zb 0, Zb 0, Zb 0, Zb 0, Zb 0, Zb 0, Zb 0, Zb 0]] }, some { es := (8 : Nat), n := (1 : Nat), mu := true, f := Rep.lst [List.map (fun (j : Nat) => Zw (ST (x.1) j)) (List.range (8 : Nat))] }, some { es := (1 : Nat), n := padLen n, mu := true, f := Rep.fn fun (i x : Nat) => Zb (p i) }]) (fun (x : { x : Nat // x ≤ padLen n / (64 : Nat) }) => padLen n / (64 : Nat) - x.1) x8) ([2, 4, 3]) ([0, 1, 2]) ([AV.own (0) (32) (0) (0) (32), AV.own (1) (8) (0) (0) (8), AV.osl (2) (1) (64 + 64 * x8.1) (padLen n - 64 * x8.1 - 64)]) ([some { es := 32, n := 1, mu := true, f := Rep.lst [[Zb 0, Zb 0, Zb 0, Zb 0, Zb 0, Zb 0, Zb 0, Zb 0, Zb 0, Zb 0, Zb 0, Zb 0, Zb 0, Zb 0, Zb 0, Zb 0, Zb 0, Zb 0, Zb 0, Zb 0, Zb 0, Zb 0, Zb 0, Zb 0, Zb 0, Zb 0, Zb 0, Zb 0, Zb 0, Zb 0, Zb 0, Zb 0]] }, some { es := 8, n := 1, mu := true, f := Rep.lst [[Zw (ST (x8.1 + (1 : Nat)) (0)), Zw (ST (x8.1 + (1 : Nat)) (1)), Zw (ST (x8.1 + (1 : Nat)) (2)), Zw (ST (x8.1 + (1 : Nat)) (3)), Zw (ST (x8.1 + (1 : Nat)) (4)), Zw (ST (x8.1 + (1 : Nat)) (5)), Zw (ST (x8.1 + (1 : Nat)) (6)), Zw (ST (x8.1 + (1 : Nat)) (7))]] }, some { es := 1, n := padLen n, mu := true, f := Rep.fn fun (i j : Nat) => Zb (p i) }]))))) (.loop ({ x : Nat // x ≤ (8 : Nat) }) (fun (x : { x : Nat // x ≤ (8 : Nat) }) => mkSt [2, 5, 37, 38] [AV.own (0) (32) (0) (0) (32), AV.own (1) (32) (0) (0) (32), AV.agg (List.map (fun (j : Nat) => Zw (ST (padLen n / (64 : Nat)) j)) (List.range (8 : Nat))), Zi (↑(x.1) : Int)] [some { es := 32, n := 1, mu := true, f := Rep.lst [[Zb 0, Zb 0, Zb 0, Zb 0, Zb 0, Zb 0, Zb 0, Zb 0, Zb 0, Zb 0, Zb 0, Zb 0, Zb 0, Zb 0, Zb 0, Zb 0, Zb 0, Zb 0, Zb 0, Zb 0, Zb 0, Zb 0, Zb 0, Zb 0, Zb 0, Zb 0, Zb 0, Zb 0, Zb 0, Zb 0, Zb 0, Zb 0]] }, some { es := (32 : Nat), n := (1 : Nat), mu := true, f := Rep.fn fun (x_1 j : Nat) => Zb (bif Nat.blt j ((4 : Nat) * x.1) then outF (ST (padLen n / (64 : Nat))) j else (0 : Int)) }]) (fun (x : { x : Nat // x ≤ (8 : Nat) }) => (8 : Nat) - x.1) (⟨(0 : Nat), Nat.zero_le (8 : Nat)⟩) ([2, 5, 37, 38]) ([0, 27]) ([AV.own (0) (32) (0) (0) (32), AV.own (1) (32) (0) (0) (32), AV.agg [Zw (ST x8.1 (0)), Zw (ST x8.1 (1)), Zw (ST x8.1 (2)), Zw (ST x8.1 (3)), Zw (ST x8.1 (4)), Zw (ST x8.1 (5)), Zw (ST x8.1 (6)), Zw (ST x8.1 (7))], Zi 0]) ([some { es := 32, n := 1, mu := true, f := Rep.lst [[Zb 0, Zb 0, Zb 0, Zb 0, Zb 0, Zb 0, Zb 0, Zb 0, Zb 0, Zb 0, Zb 0, Zb 0, Zb 0, Zb 0, Zb 0, Zb 0, Zb 0, Zb 0, Zb 0, Zb 0, Zb 0, Zb 0, Zb 0, Zb 0, Zb 0, Zb 0, Zb 0, Zb 0, Zb 0, Zb 0, Zb 0, Zb 0]] }, some { es := 32, n := 1, mu := true, f := Rep.lst [[Zb 0, Zb 0, Zb 0, Zb 0, Zb 0, Zb 0, Zb 0, Zb 0, Zb 0, Zb 0, Zb 0, Zb 0, Zb 0, Zb 0, Zb 0, Zb 0, Zb 0, Zb 0, Zb 0, Zb 0, Zb 0, Zb 0, Zb 0, Zb 0, Zb 0, Zb 0, Zb 0, Zb 0, Zb 0, Zb 0, Zb 0, Zb 0]] }]) (fun x14 => (.br (decide ((↑x14.1 : Int) < (8 : Int))) (.req ((0 : Int) ≤ (↑x14.1 : Int) ∧ (↑x14.1 : Int) < (↑(8) : Int)) (.loop ({ x : Nat // x ≤ (4 : Nat) }) (fun (x : { x : Nat // x ≤ (4 : Nat) }) => mkSt [2, 5, 6, 37, 38, 7, 42] [AV.own (0) (32) (0) (0) (32), AV.own (1) (32) (0) (0) (32), Zi (↑x14.1 : Int), AV.agg [Zw (ST (padLen n / 64) (0)), Zw (ST (padLen n / 64) (1)), Zw (ST (padLen n / 64) (2)), Zw (ST (padLen n / 64) (3)), Zw (ST (padLen n / 64) (4)), Zw (ST (padLen n / 64) (5)), Zw (ST (padLen n / 64) (6)), Zw (ST (padLen n / 64) (7))], Zi (↑x14.1 : Int), Zw (ST (padLen n / (64 : Nat)) (x14.1)), Zi (↑(x.1) : Int)] [some { es := 32, n := 1, mu := true, f := Rep.lst [[Zb 0, Zb 0, Zb 0, Zb 0, Zb 0, Zb 0, Zb 0, Zb 0, Zb 0, Zb 0, Zb 0, Zb 0, Zb 0, Zb 0, Zb 0, Zb 0, Zb 0, Zb 0, Zb 0, Zb 0, Zb 0, Zb 0, Zb 0, Zb 0, Zb 0, Zb 0, Zb 0, Zb 0, Zb 0, Zb 0, Zb 0, Zb 0]] }, some { es := (32 : Nat), n := (1 : Nat), mu := true, f := Rep.fn fun (x_1 j : Nat) => Zb (bif Nat.blt j ((4 : Nat) * x14.1 + x.1) then outF (ST (padLen n / (64 : Nat))) j else (0 : Int)) }]) (fun (x : { x : Nat // x ≤ (4 : Nat) }) => (4 : Nat) - x.1) (⟨(0 : Nat), Nat.zero_le (4 : Nat)⟩) ([2, 5, 6, 37, 38, 7, 42]) ([0, 1]) ([AV.own (0) (32) (0) (0) (32), AV.own (1) (32) (0) (0) (32), Zi (↑x14.1 : Int), AV.agg [Zw (ST (padLen n / 64) (0)), Zw (ST (padLen n / 64) (1)), Zw (ST (padLen n / 64) (2)), Zw (ST (padLen n / 64) (3)), Zw (ST (padLen n / 64) (4)), Zw (ST (padLen n / 64) (5)), Zw (ST (padLen n / 64) (6)), Zw (ST (padLen n / 64) (7))], Zi (↑x14.1 : Int), Zw (intOfAV (atL [Zw (ST (padLen n / 64) (0)), Zw (ST (padLen n / 64) (1)), Zw (ST (padLen n / 64) (2)), Zw (ST (padLen n / 64) (3)), Zw (ST (padLen n / 64) (4)), Zw (ST (padLen n / 64) (5)), Zw (ST (padLen n / 64) (6)), Zw (ST (padLen n / 64) (7))] (Int.toNat (↑x14.1 : Int)))), Zi 0]) ([some { es := 32, n := 1, mu := true, f := Rep.lst [[Zb 0, Zb 0, Zb 0, Zb 0, Zb 0, Zb 0, Zb 0, Zb 0, Zb 0, Zb 0, Zb 0, Zb 0, Zb 0, Zb 0, Zb 0, Zb 0, Zb 0, Zb 0, Zb 0, Zb 0, Zb 0, Zb 0, Zb 0, Zb 0, Zb 0, Zb 0, Zb 0, Zb 0, Zb 0, Zb 0, Zb 0, Zb 0]] }, some { es := 32, n := 1, mu := true, f := Rep.fn fun (i j : Nat) => Zb (bif Nat.blt j ((4 : Nat) * x14.1) then outF (ST (padLen n / (64 : Nat))) j else (0 : Int)) }]) (fun x17 => (.br (decide ((↑x17.1 : Int) < (4 : Int))) (.req ((0 : Int) ≤ IntKind.wrap IntKind.i64 ((24 : Int) - IntKind.wrap IntKind.i64 ((8 : Int) * (↑x17.1 : Int)))) (.req ((0 : Int) ≤ IntKind.wrap IntKind.i64 (IntKind.wrap IntKind.i64 ((4 : Int) * (↑x14.1 : Int)) + (↑x17.1 : Int)) ∧ IntKind.wrap IntKind.i64 (IntKind.wrap IntKind.i64 ((4 : Int) * (↑x14.1 : Int)) + (↑x17.1 : Int)) < (↑(32) : Int)) (.again (Again (0) (fun (x : { x : Nat // x ≤ (4 : Nat) }) => mkSt [2, 5, 6, 37, 38, 7, 42] [AV.own (0) (32) (0) (0) (32), AV.own (1) (32) (0) (0) (32), Zi (↑x14.1 : Int), AV.agg [Zw (ST (padLen n / 64) (0)), Zw (ST (padLen n / 64) (1)), Zw (ST (padLen n / 64) (2)), Zw (ST (padLen n / 64) (3)), Zw (ST (padLen n / 64) (4)), Zw (ST (padLen n / 64) (5)), Zw (ST (padLen n / 64) (6)), Zw (ST (padLen n / 64) (7))], Zi (↑x14.1 : Int), Zw (ST (padLen n / (64 : Nat)) (x14.1)), Zi (↑(x.1) : Int)] [some { es := 32, n := 1, mu := true, f := Rep.lst [[Zb 0, Zb 0, Zb 0, Zb 0, Zb 0, Zb 0, Zb 0, Zb 0, Zb 0, Zb 0, Zb 0, Zb 0, Zb 0, Zb 0, Zb 0, Zb 0, Zb 0, Zb 0, Zb 0, Zb 0, Zb 0, Zb 0, Zb 0, Zb 0, Zb 0, Zb 0, Zb 0, Zb 0, Zb 0, Zb 0, Zb 0, Zb 0]] }, some { es := (32 : Nat), n := (1 : Nat), mu := true, f := Rep.fn fun (x_1 j : Nat) => Zb (bif Nat.blt j ((4 : Nat) * x14.1 + x.1) then outF (ST (padLen n / (64 : Nat))) j else (0 : Int)) }]) (fun (x : { x : Nat // x ≤ (4 : Nat) }) => (4 : Nat) - x.1) x17) ([2, 5, 6, 37, 38, 7, 42]) ([0, 1]) ([AV.own (0) (32) (0) (0) (32), AV.own (1) (32) (0) (0) (32), Zi (↑x14.1 : Int), AV.agg [Zw (ST (padLen n / 64) (0)), Zw (ST (padLen n / 64) (1)), Zw (ST (padLen n / 64) (2)), Zw (ST (padLen n / 64) (3)), Zw (ST (padLen n / 64) (4)), Zw (ST (padLen n / 64) (5)), Zw (ST (padLen n / 64) (6)), Zw (ST (padLen n / 64) (7))], Zi (↑x14.1 : Int), Zw (ST (padLen n / 64) x14.1), Zi (IntKind.wrap IntKind.i64 ((↑x17.1 : Int) + (1 : Int)))]) ([some { es := 32, n := 1, mu := true, f := Rep.lst [[Zb 0, Zb 0, Zb 0, Zb 0, Zb 0, Zb 0, Zb 0, Zb 0, Zb 0, Zb 0, Zb 0, Zb 0, Zb 0, Zb 0, Zb 0, Zb 0, Zb 0, Zb 0, Zb 0, Zb 0, Zb 0, Zb 0, Zb 0, Zb 0, Zb 0, Zb 0, Zb 0, Zb 0, Zb 0, Zb 0, Zb 0, Zb 0]] }, some { es := 32, n := 1, mu := true, f := Rep.fn fun (i j : Nat) => Zb (bif Nat.beq i (0) && Nat.beq j (0 + Int.toNat (IntKind.wrap IntKind.i64 (IntKind.wrap IntKind.i64 ((4 : Int) * (↑x14.1 : Int)) + (↑x17.1 : Int)))) then IntKind.wrap IntKind.u8 (Int.fdiv (ST (padLen n / 64) x14.1) ((2 : Int) ^ min (Int.toNat (IntKind.wrap IntKind.i64 ((24 : Int) - IntKind.wrap IntKind.i64 ((8 : Int) * (↑x17.1 : Int))))) (32))) else bif Nat.blt j (4 * x14.1 + x17.1) then outF (ST (padLen n / 64)) j else (0 : Int)) }])))) (.again (Again (0) (fun (x : { x : Nat // x ≤ (8 : Nat) }) => mkSt [2, 5, 37, 38] [AV.own (0) (32) (0) (0) (32), AV.own (1) (32) (0) (0) (32), AV.agg (List.map (fun (j : Nat) => Zw (ST (padLen n / (64 : Nat)) j)) (List.range (8 : Nat))), Zi (↑(x.1) : Int)] [some { es := 32, n := 1, mu := true, f := Rep.lst [[Zb 0, Zb 0, Zb 0, Zb 0, Zb 0, Zb 0, Zb 0, Zb 0, Zb 0, Zb 0, Zb 0, Zb 0, Zb 0, Zb 0, Zb 0, Zb 0, Zb 0, Zb 0, Zb 0, Zb 0, Zb 0, Zb 0, Zb 0, Zb 0, Zb 0, Zb 0, Zb 0, Zb 0, Zb 0, Zb 0, Zb 0, Zb 0]] }, some { es := (32 : Nat), n := (1 : Nat), mu := true, f := Rep.fn fun (x_1 j : Nat) => Zb (bif Nat.blt j ((4 : Nat) * x.1) then outF (ST (padLen n / (64 : Nat))) j else (0 : Int)) }]) (fun (x : { x : Nat // x ≤ (8 : Nat) }) => (8 : Nat) - x.1) x14) ([2, 5, 37, 38]) ([0, 1]) ([AV.own (0) (32) (0) (0) (32), AV.own (1) (32) (0) (0) (32), AV.agg [Zw (ST (padLen n / 64) (0)), Zw (ST (padLen n / 64) (1)), Zw (ST (padLen n / 64) (2)), Zw (ST (padLen n / 64) (3)), Zw (ST (padLen n / 64) (4)), Zw (ST (padLen n / 64) (5)), Zw (ST (padLen n / 64) (6)), Zw (ST (padLen n / 64) (7))], Zi (IntKind.wrap IntKind.i64 ((↑x14.1 : Int) + (1 : Int)))]) ([some { es := 32, n := 1, mu := true, f := Rep.lst [[Zb 0, Zb 0, Zb 0, Zb 0, Zb 0, Zb 0, Zb 0, Zb 0, Zb 0, Zb 0, Zb 0, Zb 0, Zb 0, Zb 0, Zb 0, Zb 0, Zb 0, Zb 0, Zb 0, Zb 0, Zb 0, Zb 0, Zb 0, Zb 0, Zb 0, Zb 0, Zb 0, Zb 0, Zb 0, Zb 0, Zb 0, Zb 0]] }, some { es := 32, n := 1, mu := true, f := Rep.fn fun (i j : Nat) => Zb (bif Nat.blt j (4 * x14.1 + x17.1) then outF (ST (padLen n / 64)) j else (0 : Int)) }])))))) (.out (AV.agg [Zb (bif Nat.blt (0) (4 * x14.1) then outF (ST (padLen n / 64)) (0) else (0 : Int)), Zb (bif Nat.blt (1) (4 * x14.1) then outF (ST (padLen n / 64)) (1) else (0 : Int)), Zb (bif Nat.blt (2) (4 * x14.1) then outF (ST (padLen n / 64)) (2) else (0 : Int)), Zb (bif Nat.blt (3) (4 * x14.1) then outF (ST (padLen n / 64)) (3) else (0 : Int)), Zb (bif Nat.blt (4) (4 * x14.1) then outF (ST (padLen n / 64)) (4) else (0 : Int)), Zb (bif Nat.blt (5) (4 * x14.1) then outF (ST (padLen n / 64)) (5) else (0 : Int)), Zb (bif Nat.blt (6) (4 * x14.1) then outF (ST (padLen n / 64)) (6) else (0 : Int)), Zb (bif Nat.blt (7) (4 * x14.1) then outF (ST (padLen n / 64)) (7) else (0 : Int)), Zb (bif Nat.blt (8) (4 * x14.1) then outF (ST (padLen n / 64)) (8) else (0 : Int)), Zb (bif Nat.blt (9) (4 * x14.1) then outF (ST (padLen n / 64)) (9) else (0 : Int)), Zb (bif Nat.blt (10) (4 * x14.1) then outF (ST (padLen n / 64)) (10) else (0 : Int)), Zb (bif Nat.blt (11) (4 * x14.1) then outF (ST (padLen n / 64)) (11) else (0 : Int)), Zb (bif Nat.blt (12) (4 * x14.1) then outF (ST (padLen n / 64)) (12) else (0 : Int)), Zb (bif Nat.blt (13) (4 * x14.1) then outF (ST (padLen n / 64)) (13) else (0 : Int)), Zb (bif Nat.blt (14) (4 * x14.1) then outF (ST (padLen n / 64)) (14) else (0 : Int)), Zb (bif Nat.blt (15) (4 * x14.1) then outF (ST (padLen n / 64)) (15) else (0 : Int)), Zb (bif Nat.blt (16) (4 * x14.1) then outF (ST (padLen n / 64)) (16) else (0 : Int)), Zb (bif Nat.blt (17) (4 * x14.1) then outF (ST (padLen n / 64)) (17) else (0 : Int)), Zb (bif Nat.blt (18) (4 * x14.1) then outF (ST (padLen n / 64)) (18) else (0 : Int)), Zb (bif Nat.blt (19) (4 * x14.1) then outF (ST (padLen n / 64)) (19) else (0 : Int)), Zb (bif Nat.blt (20) (4 * x14.1) then outF (ST (padLen n / 64)) (20) else (0 : Int)), Zb (bif Nat.blt (21) (4 * x14.1) then outF (ST (padLen n / 64)) (21) else (0 : Int)), Zb (bif Nat.blt (22) (4 * x14.1) then outF (ST (padLen n / 64)) (22) else (0 : Int)), Zb (bif Nat.blt (23) (4 * x14.1) then outF (ST (padLen n / 64)) (23) else (0 : Int)), Zb (bif Nat.blt (24) (4 * x14.1) then outF (ST (padLen n / 64)) (24) else (0 : Int)), Zb (bif Nat.blt (25) (4 * x14.1) then outF (ST (padLen n / 64)) (25) else (0 : Int)), Zb (bif Nat.blt (26) (4 * x14.1) then outF (ST (padLen n / 64)) (26) else (0 : Int)), Zb (bif Nat.blt (27) (4 * x14.1) then outF (ST (padLen n / 64)) (27) else (0 : Int)), Zb (bif Nat.blt (28) (4 * x14.1) then outF (ST (padLen n / 64)) (28) else (0 : Int)), Zb (bif Nat.blt (29) (4 * x14.1) then outF (ST (padLen n / 64)) (29) else (0 : Int)), Zb (bif Nat.blt (30) (4 * x14.1) then outF (ST (padLen n / 64)) (30) else (0 : Int)), Zb (bif Nat.blt (31) (4 * x14.1) then outF (ST (padLen n / 64)) (31) else (0 : Int))]) [] (AV.agg (u8c (outF (ST (padLen n / (64 : Nat)))))) []))))))))))))))
    (by kernel_rfl) ?_
  refine k_gc (cloneB2_c (f) (n) (by first | omega | (rw [wu64 (n := (n : Int)) (by omega) (by omega), wu64 (by omega) (by omega)]; omega) | (intro i hi; exact congrArg p (by omega)))) ?_
  refine k_req (by omega) ?_
  refine k_loop (fun _ hs => hs.le (⟨.refl _, .refl _, .refl _, trivial⟩) (⟨.refl _, pad_ob, trivial⟩)) (fun x2 => ?_)
  try (have q2 := x2.2; dsimp only at q2)
  refine k_br (fun h3 => ?_) (fun h3 => ?_)
  · have g3 := cnd_bne_t h3
    refine k_req (by omega) ?_
    exact k_again (⟨x2.1 + 1, pad_lt x2.2 g3⟩) (fun _ hs => hs.le (⟨.refl _, .refl _, .refl _, trivial⟩) (⟨.refl _, ObEnt.pushF (F := pad0 n f) rfl (pad0_z (by omega)).symm, trivial⟩)) (by have := pad_lt x2.2 g3; first | omega | (dsimp only; omega))
  · have g3 := cnd_bne_f h3
    refine k_dc (count_c (IntKind.wrap IntKind.u64 ((8 : Int) * IntKind.wrap IntKind.u64 (↑n : Int))) (by first | omega | (rw [wu64 (n := (n : Int)) (by omega) (by omega), wu64 (by omega) (by omega)]; omega) | (intro i hi; exact congrArg p (by omega))) (by first | omega | (rw [wu64 (n := (n : Int)) (by omega) (by omega), wu64 (by omega) (by omega)]; omega) | (intro i hi; exact congrArg p (by omega)))) ?_
    refine k_req (by omega) ?_
    refine k_loop (fun _ hs => hs.le (⟨.refl _, .refl _, Ent.of_eq (congrArg (AV.osl 2 1 0) (pad_fin x2.2 g3)), trivial⟩) (⟨.refl _, ObEnt.row (by show EntL _ _ ((List.range 8).map fun j => .int .u32 (ST 0 j)); rw [h0]; exact EntL.refl _), by rw [hp]; exact pad_ob2 hn (pad_fin x2.2 g3), trivial⟩)) (fun x8 => ?_)
    try (have q8 := x8.2; dsimp only at q8)
    refine k_br (fun h9 => ?_) (fun h9 => ?_)
    · have g9 := cnd_dec_t h9
      refine k_req (by omega) ?_
      refine k_sc (hmix (x8.1) (fun (i : Nat) => p (i + (0 + 64 * x8.1))) (by first | omega | (rw [wu64 (n := (n : Int)) (by omega) (by omega), wu64 (by omega) (by omega)]; omega) | (intro i hi; exact congrArg p (by omega)))) ?_
      refine k_req (by omega) ?_
      exact k_again (⟨x8.1 + 1, by omega⟩) (fun _ hs => hs.le (⟨.refl _, .refl _, Ent.of_eq (by show AV.osl 2 1 (64 + 64 * x8.1) (padLen n - 64 * x8.1 - 64) = AV.osl 2 1 (64 * (x8.1 + 1)) (padLen n - 64 * (x8.1 + 1)); congr 1 <;> omega), trivial⟩) (⟨.refl _, .refl _, .refl _, trivial⟩)) (by dsimp only; omega)
    · have g9 := cnd_dec_f h9
      refine k_loop (fun _ hs => hs.le (⟨.refl _, .refl _, Ent.of_eq (by
                                                                                                     have e : x8.1 = padLen n / 64 := by omega
                                                                                                     rw [e]
                                                                                                     rfl), .refl _, trivial⟩) (⟨.refl _, zero_ob32 (fun j => rfl), trivial⟩)) (fun x14 => ?_)
      refine k_br (fun h15 => ?_) (fun h15 => ?_)
      · have g15 := cnd_dec_t h15
        refine k_req (by omega) ?_
        refine k_loop (fun _ hs => hs.le (⟨.refl _, .refl _, .refl _, .refl _, .refl _, Ent.of_eq (congrArg _ (congrArg intOfAV (atL_map_range (es := 8) (g := fun j => AV.int .u32 (ST (padLen n / 64) j)) (by omega)))), .refl _, trivial⟩) (⟨.refl _, .refl _, trivial⟩)) (fun x17 => ?_)
        try (have q17 := x17.2; dsimp only at q17)
        refine k_br (fun h18 => ?_) (fun h18 => ?_)
        · have g18 := cnd_dec_t h18
          refine k_req (by rw [wI (n := 8 * (x17.1 : Int)) (by omega) (by omega), wI (by omega) (by omega)]; omega) ?_
          refine k_req (by rw [w4k (by omega) (by omega)]; omega) ?_
          exact k_again (⟨x17.1 + 1, by omega⟩) (fun _ hs => hs.le (⟨.refl _, .refl _, .refl _, .refl _, .refl _, .refl _, inc_ent (by omega), trivial⟩) (⟨.refl _, ObEnt.setR (P := fun i j => Nat.beq i 0 && Nat.beq j (0 + Int.toNat (IntKind.wrap .i64 (IntKind.wrap .i64 (4 * (x14.1 : Int)) + (x17.1 : Int))))) (c0 := 4 * x14.1 + x17.1) (G := fun j => bif Nat.blt j (4 * x14.1 + x17.1 + 1) then outF (ST (padLen n / 64)) j else 0) (fun j _ => by show (true && Nat.beq j (0 + Int.toNat _)) = _; rw [w4k (by omega) (by omega), Nat.zero_add, show Int.toNat (4 * (x14.1 : Int) + x17.1) = 4 * x14.1 + x17.1 by omega]; rfl) (by rw [blt_t (Nat.lt_succ_self _)]; exact out_w (by omega) (by omega)) (fun j _ he => fill_step he), trivial⟩)) (by dsimp only; omega)
        · have g18 := cnd_dec_f h18
          exact k_again (⟨x14.1 + 1, by omega⟩) (fun _ hs => hs.le (⟨.refl _, .refl _, .refl _, inc_ent (by omega), trivial⟩) (⟨.refl _, ObEnt.fnR (fun j hj => by
                                                                                                     have e : x17.1 = 4 := by omega
                                                                                                     rw [e]
                                                                                                     rfl), trivial⟩)) (by dsimp only; omega)
      · have g15 := cnd_dec_f h15
        exact k_out (Ent.of_eq (by
                                                                                                     show AV.agg ((List.range 32).map fun j => .int .u8 (bif Nat.blt j (4 * x14.1) then outF (ST (padLen n / 64)) j else 0)) = AV.agg ((List.range 32).map fun j => .int .u8 (outF (ST (padLen n / 64)) j))
                                                                                                     exact congrArg AV.agg (List.map_congr_left fun j hj => by rw [blt_t (by have := List.mem_range.1 hj; omega)]; rfl)))

theorem sum_c (f : Nat → Int) (n : Nat) (hn : n ≤ 1099511627776) (hf : byB f n) : Pure Tryz.prog gl0 140 [bys n f] (.agg (u8c (shaF n f))) :=
  sum_r f n hn (padF n f) (stateF (padF n f)) rfl rfl (fun k q hq => Pure.via (mix_c (stateF (padF n f) k) (fun i => padF n f (64 * k + i)) (fun i _ => pad_by hf _)) ⟨Ent.refl _, bys_eq rfl hq, trivial⟩)

theorem constants_c:Pure Tryz.prog gl0 188 [] (.isl 1 64 fun i _=>.int .u32 (kF i)):=by
 refine pure_sk (own:=ow0) Tryz.func188 (by kernel_rfl) mixed (by kernel_rfl)
  (.out (AV.isl (1) (64) fun (r k:Nat)=>atL (List.getD [[Zw 1116352408],[Zw 1899447441],[Zw 3049323471],[Zw 3921009573],[Zw 961987163],[Zw 1508970993],[Zw 2453635748],[Zw 2870763221],[Zw 3624381080],[Zw 310598401],[Zw 607225278],[Zw 1426881987],[Zw 1925078388],[Zw 2162078206],[Zw 2614888103],[Zw 3248222580],[Zw 3835390401],[Zw 4022224774],[Zw 264347078],[Zw 604807628],[Zw 770255983],[Zw 1249150122],[Zw 1555081692],[Zw 1996064986],[Zw 2554220882],[Zw 2821834349],[Zw 2952996808],[Zw 3210313671],[Zw 3336571891],[Zw 3584528711],[Zw 113926993],[Zw 338241895],[Zw 666307205],[Zw 773529912],[Zw 1294757372],[Zw 1396182291],[Zw 1695183700],[Zw 1986661051],[Zw 2177026350],[Zw 2456956037],[Zw 2730485921],[Zw 2820302411],[Zw 3259730800],[Zw 3345764771],[Zw 3516065817],[Zw 3600352804],[Zw 4094571909],[Zw 275423344],[Zw 430227734],[Zw 506948616],[Zw 659060556],[Zw 883997877],[Zw 958139571],[Zw 1322822218],[Zw 1537002063],[Zw 1747873779],[Zw 1955562222],[Zw 2024104815],[Zw 2227730452],[Zw 2361852424],[Zw 2428436474],[Zw 2756734187],[Zw 3204031479],[Zw 3329325298]] (r+0) []) k) [] (AV.isl (1:Nat) (64:Nat) fun (i x:Nat)=>Zw (kF i)) [])
  (by kernel_rfl) ?_
 exact k_out (Ent.isl (fun r j hr hj=>by (obtain rfl:j=0:=Nat.lt_one_iff.1 hj);exact getD_rows (l:=kL) (k:=.u32) hr))
theorem padded_c (f:Nat→Int) (n:Nat) (hn:n≤1099511627776):Pure Tryz.prog gl0 189 [bys n f] (bys (padLen n) (padF n f)):=by
 have pl:=pad_len n
 refine pure_sk (own:=ow0) Tryz.func189 (by kernel_rfl) mixed (by kernel_rfl)
  (.req ((0+n)*1≤140737488355328) (.req ((0+n+1)*1≤140737488355328) (.loop ({ x:Nat // x≤padLen n - n - (9:Nat) }) (fun (x:{ x:Nat // x≤padLen n - n - (9:Nat) })=>mkSt [0,3] [AV.isl (1) n fun (i x:Nat)=>Zb (f i),AV.osl (0:Nat) (1:Nat) (0:Nat) (n+(1:Nat)+x.1)] [some { es:=(1:Nat),n:=n+(1:Nat)+x.1,mu:=true,f:=Rep.fn fun (i x:Nat)=>Zb (pad0 n f i) }]) (fun (x:{ x:Nat // x≤padLen n - n - (9:Nat) })=>padLen n - n - (9:Nat) - x.1) (⟨(0:Nat),Nat.zero_le (padLen n - n - (9:Nat))⟩) ([0,3]) ([40]) ([AV.isl (1) n fun (i x:Nat)=>Zb (f i),AV.osl (0) (1) (0) (0+n+1)]) ([some { es:=1,n:=0+n+1,mu:=true,f:=Rep.fn fun (i j:Nat)=>Zb (bif Nat.blt i (0+n) then f i else intOfAV (atL [Zb 128] j)) }]) (fun x2=>(.br (Int.tmod (↑(n+1+x2.1):Int) (64:Int) != (56:Int)) (.req ((n+1+x2.1+1)*1≤140737488355328) (.again (Again (0) (fun (x:{ x:Nat // x≤padLen n - n - (9:Nat) })=>mkSt [0,3] [AV.isl (1) n fun (i x:Nat)=>Zb (f i),AV.osl (0:Nat) (1:Nat) (0:Nat) (n+(1:Nat)+x.1)] [some { es:=(1:Nat),n:=n+(1:Nat)+x.1,mu:=true,f:=Rep.fn fun (i x:Nat)=>Zb (pad0 n f i) }]) (fun (x:{ x:Nat // x≤padLen n - n - (9:Nat) })=>padLen n - n - (9:Nat) - x.1) x2) ([0,3]) ([49]) ([AV.isl (1) n fun (i x:Nat)=>Zb (f i),AV.osl (0) (1) (0) (n+1+x2.1+1)]) ([some { es:=1,n:=n+1+x2.1+1,mu:=true,f:=Rep.fn fun (i j:Nat)=>Zb (bif Nat.blt i (n+1+x2.1) then pad0 n f i else intOfAV (atL [Zb 0] j)) }]))) (.dc (true) 222 ([Zi (IntKind.wrap IntKind.i64 ((8:Int)*(↑n:Int)))]) (bys (8:Nat) (be8 (IntKind.wrap IntKind.i64 ((8:Int)*(↑n:Int))))) (.req ((n+1+x2.1+8)*1≤140737488355328) (.out (AV.isl (1) (n+1+x2.1+8) fun (r k:Nat)=>Zb (bif Nat.blt (r+0) (n+1+x2.1) then pad0 n f (r+0) else be8 (IntKind.wrap IntKind.i64 ((8:Int)*(↑n:Int))) (r+0 - (n+1+x2.1)))) [] (bys (padLen n) (padF n f)) []))))))))
  (by kernel_rfl) ?_
 refine k_req (by first|omega|(simp only [Int.toNat_natCast];omega)) ?_
 refine k_req (by first|omega|(simp only [Int.toNat_natCast];omega)) ?_
 refine k_loop (fun _ hs=>hs.le (⟨by first|exact Ent.refl _|exact inc_ent (by omega)|exact Ent.nil rfl|exact Ent.of_eq (congrArg (AV.osl _ _ _) (by first|omega|(dsimp only;omega)))|exact Ent.of_eq (congrArg (AV.int _) (by first|omega|(dsimp only;omega))),Ent.of_eq (congrArg (AV.osl 0 1 0) (by dsimp only;omega)),trivial⟩) (⟨by rw [show 0+n=n from Nat.zero_add n];exact pad_ob,trivial⟩)) (fun x2=>?_)
 try (have q2:=x2.2;dsimp only at q2)
 refine k_br (fun h3=>?_) (fun h3=>?_)
 ·have g3:=cnd_bne_t h3
  refine k_req (by first|omega|(simp only [Int.toNat_natCast];omega)) ?_
  exact k_again (⟨x2.1+1,pad_lt x2.2 g3⟩) (fun _ hs=>hs.le (by repeat' (first|exact trivial|(first|exact Ent.refl _|exact inc_ent (by omega)|exact Ent.nil rfl|exact Ent.of_eq (congrArg (AV.osl _ _ _) (by first|omega|(dsimp only;omega)))|exact Ent.of_eq (congrArg (AV.int _) (by first|omega|(dsimp only;omega))))|refine And.intro ?_ ?_)) (⟨ObEnt.pushF (F:=pad0 n f) rfl (pad0_z (by omega)).symm,trivial⟩)) (by have:=pad_lt x2.2 g3;first|omega|(dsimp only;omega))
 ·have g3:=cnd_bne_f h3
  refine k_dc (rbytes_c (IntKind.wrap IntKind.i64 ((8:Int)*(↑n:Int))) (by rw [wI (by omega) (by omega)];omega) (by rw [wI (by omega) (by omega)];omega)) ?_
  refine k_req (by first|omega|(simp only [Int.toNat_natCast];omega)) ?_
  exact k_out (bys_eq (pad_fin x2.2 g3) (fun i hi=>by rw [wI (by omega) (by omega)];exact pad_eq (pad_fin x2.2 g3) i))
theorem rwords_c (b:Nat→Int) (hb:byB b 64):Pure Tryz.prog gl0 190 [bys 64 b] (.isl 1 64 fun i _=>.int .u32 (wordF b i)):=by
 refine pure_sk (own:=ow0) Tryz.func190 (by kernel_rfl) mixed (by kernel_rfl)
  (.loop ({ x:Nat // x≤(16:Nat) }) (fun (x:{ x:Nat // x≤(16:Nat) })=>mkSt [0,3,4] [AV.isl (1) (64) fun (i x:Nat)=>Zb (b i),AV.osl (0:Nat) (1:Nat) (0:Nat) (x.1),Zi (↑(x.1):Int)] [some { es:=(1:Nat),n:=x.1,mu:=true,f:=Rep.fn fun (q x:Nat)=>Zw (be4 b q) }]) (fun (x:{ x:Nat // x≤(16:Nat) })=>(16:Nat) - x.1) (⟨(0:Nat),Nat.zero_le (16:Nat)⟩) ([0,3,4]) ([280]) ([AV.isl (1) (64) fun (i x:Nat)=>Zb (b i),AV.nsl,Zi 0]) ([some { es:=1,n:=0,mu:=true,f:=Rep.ty (999999999:TypeId) (Rep.lst []) }]) (fun x0=>(.br (decide ((↑x0.1:Int)<(16:Int))) (.loop ({ x:Nat // x≤(4:Nat) }) (fun (x:{ x:Nat // x≤(4:Nat) })=>mkSt [0,3,4,5,6] [AV.isl (1) (64) fun (i x:Nat)=>Zb (b i),AV.osl (0) (1) (0) x0.1,Zi (↑x0.1:Int),Zw (preB b (x0.1) (x.1)),Zi (↑(x.1):Int)] [some { es:=1,n:=x0.1,mu:=true,f:=Rep.fn fun (i j:Nat)=>Zw (be4 b i) }]) (fun (x:{ x:Nat // x≤(4:Nat) })=>(4:Nat) - x.1) (⟨(0:Nat),Nat.zero_le (4:Nat)⟩) ([0,3,4,5,6]) ([0]) ([AV.isl (1) (64) fun (i x:Nat)=>Zb (b i),AV.osl (0) (1) (0) x0.1,Zi (↑x0.1:Int),Zw 0,Zi 0]) ([some { es:=1,n:=x0.1,mu:=true,f:=Rep.fn fun (i j:Nat)=>Zw (be4 b i) }]) (fun x2=>(.br (decide ((↑x2.1:Int)<(4:Int))) (.req ((0:Int)≤IntKind.wrap IntKind.i64 (IntKind.wrap IntKind.i64 ((4:Int)*(↑x0.1:Int))+(↑x2.1:Int))∧IntKind.wrap IntKind.i64 (IntKind.wrap IntKind.i64 ((4:Int)*(↑x0.1:Int))+(↑x2.1:Int))<(↑(64):Int)) (.again (Again (0) (fun (x:{ x:Nat // x≤(4:Nat) })=>mkSt [0,3,4,5,6] [AV.isl (1) (64) fun (i x:Nat)=>Zb (b i),AV.osl (0) (1) (0) x0.1,Zi (↑x0.1:Int),Zw (preB b (x0.1) (x.1)),Zi (↑(x.1):Int)] [some { es:=1,n:=x0.1,mu:=true,f:=Rep.fn fun (i j:Nat)=>Zw (be4 b i) }]) (fun (x:{ x:Nat // x≤(4:Nat) })=>(4:Nat) - x.1) x2) ([0,3,4,5,6]) ([0]) ([AV.isl (1) (64) fun (i x:Nat)=>Zb (b i),AV.osl (0) (1) (0) x0.1,Zi (↑x0.1:Int),Zw (IntKind.wrap IntKind.u32 (IntKind.wrap IntKind.u32 (preB b x0.1 x2.1*(256:Int))+IntKind.wrap IntKind.u32 (b (Int.toNat (IntKind.wrap IntKind.i64 (IntKind.wrap IntKind.i64 ((4:Int)*(↑x0.1:Int))+(↑x2.1:Int))))))),Zi (IntKind.wrap IntKind.i64 ((↑x2.1:Int)+(1:Int)))]) ([some { es:=1,n:=x0.1,mu:=true,f:=Rep.fn fun (i j:Nat)=>Zw (be4 b i) }]))) (.req ((x0.1+1)*4≤140737488355328) (.again (Again (0) (fun (x:{ x:Nat // x≤(16:Nat) })=>mkSt [0,3,4] [AV.isl (1) (64) fun (i x:Nat)=>Zb (b i),AV.osl (0:Nat) (1:Nat) (0:Nat) (x.1),Zi (↑(x.1):Int)] [some { es:=(1:Nat),n:=x.1,mu:=true,f:=Rep.fn fun (q x:Nat)=>Zw (be4 b q) }]) (fun (x:{ x:Nat // x≤(16:Nat) })=>(16:Nat) - x.1) x0) ([0,3,4]) ([41]) ([AV.isl (1) (64) fun (i x:Nat)=>Zb (b i),AV.osl (0) (1) (0) (x0.1+1),Zi (IntKind.wrap IntKind.i64 ((↑x0.1:Int)+(1:Int)))]) ([some { es:=1,n:=x0.1+1,mu:=true,f:=Rep.fn fun (i j:Nat)=>Zw (bif Nat.blt i x0.1 then be4 b i else intOfAV (atL [Zw (preB b (x0.1) (x2.1))] j)) }])))))) (.loop ({ x:Nat // x≤(48:Nat) }) (fun (x:{ x:Nat // x≤(48:Nat) })=>mkSt [3,7] [AV.osl (0:Nat) (1:Nat) (0:Nat) ((16:Nat)+x.1),Zi (↑((16:Nat)+x.1):Int)] [some { es:=(1:Nat),n:=(16:Nat)+x.1,mu:=true,f:=Rep.fn fun (q x:Nat)=>Zw (wordF b q) }]) (fun (x:{ x:Nat // x≤(48:Nat) })=>(48:Nat) - x.1) (⟨(0:Nat),Nat.zero_le (48:Nat)⟩) ([3,7]) ([0]) ([AV.osl (0) (1) (0) x0.1,Zi 16]) ([some { es:=1,n:=x0.1,mu:=true,f:=Rep.fn fun (i j:Nat)=>Zw (be4 b i) }]) (fun x8=>(.br (decide ((↑(16+x8.1):Int)<(64:Int))) (.req ((0:Int)≤IntKind.wrap IntKind.i64 ((↑(16+x8.1):Int) - (15:Int))∧IntKind.wrap IntKind.i64 ((↑(16+x8.1):Int) - (15:Int))<(↑(16+x8.1):Int)) (.req ((0:Int)≤IntKind.wrap IntKind.i64 ((↑(16+x8.1):Int) - (2:Int))∧IntKind.wrap IntKind.i64 ((↑(16+x8.1):Int) - (2:Int))<(↑(16+x8.1):Int)) (.sc (true) 191 ([Zw (wordF b (Int.toNat (IntKind.wrap IntKind.i64 ((↑(16+x8.1):Int) - (15:Int)))+0)),Zi 7]) (Zw (rotr (wordF b (Int.toNat (IntKind.wrap IntKind.i64 ((↑(16+x8.1):Int) - (15:Int)))+0)) (7:Nat))) (.sc (true) 191 ([Zw (wordF b (Int.toNat (IntKind.wrap IntKind.i64 ((↑(16+x8.1):Int) - (15:Int)))+0)),Zi 18]) (Zw (rotr (wordF b (Int.toNat (IntKind.wrap IntKind.i64 ((↑(16+x8.1):Int) - (15:Int)))+0)) (18:Nat))) (.sc (true) 191 ([Zw (wordF b (Int.toNat (IntKind.wrap IntKind.i64 ((↑(16+x8.1):Int) - (2:Int)))+0)),Zi 17]) (Zw (rotr (wordF b (Int.toNat (IntKind.wrap IntKind.i64 ((↑(16+x8.1):Int) - (2:Int)))+0)) (17:Nat))) (.sc (true) 191 ([Zw (wordF b (Int.toNat (IntKind.wrap IntKind.i64 ((↑(16+x8.1):Int) - (2:Int)))+0)),Zi 19]) (Zw (rotr (wordF b (Int.toNat (IntKind.wrap IntKind.i64 ((↑(16+x8.1):Int) - (2:Int)))+0)) (19:Nat))) (.req ((0:Int)≤IntKind.wrap IntKind.i64 ((↑(16+x8.1):Int) - (16:Int))∧IntKind.wrap IntKind.i64 ((↑(16+x8.1):Int) - (16:Int))<(↑(16+x8.1):Int)) (.req ((0:Int)≤IntKind.wrap IntKind.i64 ((↑(16+x8.1):Int) - (7:Int))∧IntKind.wrap IntKind.i64 ((↑(16+x8.1):Int) - (7:Int))<(↑(16+x8.1):Int)) (.req ((16+x8.1+1)*4≤140737488355328) (.again (Again (0) (fun (x:{ x:Nat // x≤(48:Nat) })=>mkSt [3,7] [AV.osl (0:Nat) (1:Nat) (0:Nat) ((16:Nat)+x.1),Zi (↑((16:Nat)+x.1):Int)] [some { es:=(1:Nat),n:=(16:Nat)+x.1,mu:=true,f:=Rep.fn fun (q x:Nat)=>Zw (wordF b q) }]) (fun (x:{ x:Nat // x≤(48:Nat) })=>(48:Nat) - x.1) x8) ([3,7]) ([393]) ([AV.osl (0) (1) (0) (16+x8.1+1),Zi (IntKind.wrap IntKind.i64 ((↑(16+x8.1):Int)+(1:Int)))]) ([some { es:=1,n:=16+x8.1+1,mu:=true,f:=Rep.fn fun (i j:Nat)=>Zw (bif Nat.blt i (16+x8.1) then wordF b i else intOfAV (atL [Zw (IntKind.wrap IntKind.u32 (IntKind.wrap IntKind.u32 (IntKind.wrap IntKind.u32 (wordF b (Int.toNat (IntKind.wrap IntKind.i64 ((↑(16+x8.1):Int) - (16:Int)))+0)+IntKind.wrap IntKind.u32 (↑(BitVec.toNat (BitVec.ofInt (32) (IntKind.wrap IntKind.u32 (↑(BitVec.toNat (BitVec.ofInt (32) (rotr (wordF b (Int.toNat (IntKind.wrap IntKind.i64 ((↑(16+x8.1):Int) - (15:Int)))+0)) (7)) ^^^ BitVec.ofInt (32) (rotr (wordF b (Int.toNat (IntKind.wrap IntKind.i64 ((↑(16+x8.1):Int) - (15:Int)))+0)) (18)))):Int)) ^^^ BitVec.ofInt (32) (Int.fdiv (wordF b (Int.toNat (IntKind.wrap IntKind.i64 ((↑(16+x8.1):Int) - (15:Int)))+0)) ((2:Int)^3)))):Int))+wordF b (Int.toNat (IntKind.wrap IntKind.i64 ((↑(16+x8.1):Int) - (7:Int)))+0))+IntKind.wrap IntKind.u32 (↑(BitVec.toNat (BitVec.ofInt (32) (IntKind.wrap IntKind.u32 (↑(BitVec.toNat (BitVec.ofInt (32) (rotr (wordF b (Int.toNat (IntKind.wrap IntKind.i64 ((↑(16+x8.1):Int) - (2:Int)))+0)) (17)) ^^^ BitVec.ofInt (32) (rotr (wordF b (Int.toNat (IntKind.wrap IntKind.i64 ((↑(16+x8.1):Int) - (2:Int)))+0)) (19)))):Int)) ^^^ BitVec.ofInt (32) (Int.fdiv (wordF b (Int.toNat (IntKind.wrap IntKind.i64 ((↑(16+x8.1):Int) - (2:Int)))+0)) ((2:Int)^10)))):Int)))] j)) }]))))))))))) (.out (AV.isl (1) (16+x8.1) fun (r k:Nat)=>Zw (wordF b (r+0))) [] (AV.isl (1:Nat) (64:Nat) fun (i x:Nat)=>Zw (wordF b i)) [])))))))
  (by kernel_rfl) ?_
 refine k_loop (fun _ hs=>hs.le (by repeat' (first|exact trivial|(first|exact Ent.refl _|exact inc_ent (by omega)|exact Ent.nil rfl|exact Ent.of_eq (congrArg (AV.osl _ _ _) (by first|omega|(dsimp only;omega)))|exact Ent.of_eq (congrArg (AV.int _) (by first|omega|(dsimp only;omega))))|refine And.intro ?_ ?_)) (by repeat' (first|exact trivial|(first|exact ObEnt.refl _|exact ObEnt.junk|exact ObEnt.zero|exact ObEnt.push rfl rfl|exact ObEnt.pushRow rfl|exact ObEnt.len (by omega)|exact ObEnt.row (by repeat' (first|exact trivial|(first|exact Ent.refl _|exact inc_ent (by omega)|exact Ent.nil rfl|exact Ent.of_eq (congrArg (AV.osl _ _ _) (by first|omega|(dsimp only;omega)))|exact Ent.of_eq (congrArg (AV.int _) (by first|omega|(dsimp only;omega))))|refine And.intro ?_ ?_)))|refine And.intro ?_ ?_))) (fun x0=>?_)
 try (have q0:=x0.2;dsimp only at q0)
 refine k_br (fun h1=>?_) (fun h1=>?_)
 ·have g1:=cnd_dec_t h1
  refine k_loop (fun _ hs=>hs.le (by repeat' (first|exact trivial|(first|exact Ent.refl _|exact inc_ent (by omega)|exact Ent.nil rfl|exact Ent.of_eq (congrArg (AV.osl _ _ _) (by first|omega|(dsimp only;omega)))|exact Ent.of_eq (congrArg (AV.int _) (by first|omega|(dsimp only;omega))))|refine And.intro ?_ ?_)) (by repeat' (first|exact trivial|(first|exact ObEnt.refl _|exact ObEnt.junk|exact ObEnt.zero|exact ObEnt.push rfl rfl|exact ObEnt.pushRow rfl|exact ObEnt.len (by omega)|exact ObEnt.row (by repeat' (first|exact trivial|(first|exact Ent.refl _|exact inc_ent (by omega)|exact Ent.nil rfl|exact Ent.of_eq (congrArg (AV.osl _ _ _) (by first|omega|(dsimp only;omega)))|exact Ent.of_eq (congrArg (AV.int _) (by first|omega|(dsimp only;omega))))|refine And.intro ?_ ?_)))|refine And.intro ?_ ?_))) (fun x2=>?_)
  try (have q2:=x2.2;dsimp only at q2)
  refine k_br (fun h3=>?_) (fun h3=>?_)
  ·have g3:=cnd_dec_t h3
   refine k_req (by rw [w4k (by omega) (by omega)];omega) ?_
   exact k_again (⟨x2.1+1,by omega⟩) (fun _ hs=>hs.le (⟨by first|exact Ent.refl _|exact inc_ent (by omega)|exact Ent.nil rfl|exact Ent.of_eq (congrArg (AV.osl _ _ _) (by first|omega|(dsimp only;omega)))|exact Ent.of_eq (congrArg (AV.int _) (by first|omega|(dsimp only;omega))),by first|exact Ent.refl _|exact inc_ent (by omega)|exact Ent.nil rfl|exact Ent.of_eq (congrArg (AV.osl _ _ _) (by first|omega|(dsimp only;omega)))|exact Ent.of_eq (congrArg (AV.int _) (by first|omega|(dsimp only;omega))),by first|exact Ent.refl _|exact inc_ent (by omega)|exact Ent.nil rfl|exact Ent.of_eq (congrArg (AV.osl _ _ _) (by first|omega|(dsimp only;omega)))|exact Ent.of_eq (congrArg (AV.int _) (by first|omega|(dsimp only;omega))),Ent.of_eq (congrArg _ (by rw [w4k (by omega) (by omega),show Int.toNat (4*(x0.1:Int)+x2.1)=4*x0.1+x2.1 by omega];have p:=pre_b24 (k:=x2.1) hb (show x0.1<16 by omega) (by omega);have q:=hb (4*x0.1+x2.1) (by omega);exact pre_add p.1 p.2 q.1 q.2)),by first|exact Ent.refl _|exact inc_ent (by omega)|exact Ent.nil rfl|exact Ent.of_eq (congrArg (AV.osl _ _ _) (by first|omega|(dsimp only;omega)))|exact Ent.of_eq (congrArg (AV.int _) (by first|omega|(dsimp only;omega))),trivial⟩) (by repeat' (first|exact trivial|(first|exact ObEnt.refl _|exact ObEnt.junk|exact ObEnt.zero|exact ObEnt.push rfl rfl|exact ObEnt.pushRow rfl|exact ObEnt.len (by omega)|exact ObEnt.row (by repeat' (first|exact trivial|(first|exact Ent.refl _|exact inc_ent (by omega)|exact Ent.nil rfl|exact Ent.of_eq (congrArg (AV.osl _ _ _) (by first|omega|(dsimp only;omega)))|exact Ent.of_eq (congrArg (AV.int _) (by first|omega|(dsimp only;omega))))|refine And.intro ?_ ?_)))|refine And.intro ?_ ?_))) (by first|omega|(dsimp only;omega)|(simp;omega))
  ·have g3:=cnd_dec_f h3
   refine k_req (by first|omega|(simp only [Int.toNat_natCast];omega)) ?_
   exact k_again (⟨x0.1+1,by omega⟩) (fun _ hs=>hs.le (by repeat' (first|exact trivial|(first|exact Ent.refl _|exact inc_ent (by omega)|exact Ent.nil rfl|exact Ent.of_eq (congrArg (AV.osl _ _ _) (by first|omega|(dsimp only;omega)))|exact Ent.of_eq (congrArg (AV.int _) (by first|omega|(dsimp only;omega))))|refine And.intro ?_ ?_)) (⟨ObEnt.pushF (F:=be4 b) rfl (by show preB b x0.1 x2.1=preB b x0.1 4;rw [show x2.1=4 by omega]),trivial⟩)) (by first|omega|(dsimp only;omega)|(simp;omega))
 ·have g1:=cnd_dec_f h1
  refine k_loop (fun _ hs=>hs.le (⟨Ent.of_eq (congrArg (AV.osl 0 1 0) (by dsimp only;omega)),by first|exact Ent.refl _|exact inc_ent (by omega)|exact Ent.nil rfl|exact Ent.of_eq (congrArg (AV.osl _ _ _) (by first|omega|(dsimp only;omega)))|exact Ent.of_eq (congrArg (AV.int _) (by first|omega|(dsimp only;omega))),trivial⟩) (⟨ObEnt.fnF (by dsimp only;omega) (fun i hi=>(word_lo (by omega)).symm),trivial⟩)) (fun x8=>?_)
  try (have q8:=x8.2;dsimp only at q8)
  refine k_br (fun h9=>?_) (fun h9=>?_)
  ·have g9:=cnd_dec_t h9
   refine k_req (by rw [wI (by omega) (by omega)];omega) ?_
   refine k_req (by rw [wI (by omega) (by omega)];omega) ?_
   refine k_sc ((fun (x:Int)=>rright_c x (7:Nat)) (wordF b (Int.toNat (IntKind.wrap IntKind.i64 ((↑(16+x8.1):Int) - (15:Int)))+0)) (by first|assumption|omega) (by first|assumption|omega)) ?_
   refine k_sc ((fun (x:Int)=>rright_c x (18:Nat)) (wordF b (Int.toNat (IntKind.wrap IntKind.i64 ((↑(16+x8.1):Int) - (15:Int)))+0)) (by first|assumption|omega) (by first|assumption|omega)) ?_
   refine k_sc ((fun (x:Int)=>rright_c x (17:Nat)) (wordF b (Int.toNat (IntKind.wrap IntKind.i64 ((↑(16+x8.1):Int) - (2:Int)))+0)) (by first|assumption|omega) (by first|assumption|omega)) ?_
   refine k_sc ((fun (x:Int)=>rright_c x (19:Nat)) (wordF b (Int.toNat (IntKind.wrap IntKind.i64 ((↑(16+x8.1):Int) - (2:Int)))+0)) (by first|assumption|omega) (by first|assumption|omega)) ?_
   refine k_req (by rw [wI (by omega) (by omega)];omega) ?_
   refine k_req (by rw [wI (by omega) (by omega)];omega) ?_
   refine k_req (by first|omega|(simp only [Int.toNat_natCast];omega)) ?_
   exact k_again (⟨x8.1+1,by omega⟩) (fun _ hs=>hs.le (⟨by first|exact Ent.refl _|exact inc_ent (by omega)|exact Ent.nil rfl|exact Ent.of_eq (congrArg (AV.osl _ _ _) (by first|omega|(dsimp only;omega)))|exact Ent.of_eq (congrArg (AV.int _) (by first|omega|(dsimp only;omega))),inc_ent (i:=16+x8.1) (by omega),trivial⟩) (⟨ObEnt.pushF (F:=wordF b) rfl (by
                                                                                                     simp only [back_w (t:=x8.1) (d:=15) (k:=15) rfl (by omega) (by omega),back_w (t:=x8.1) (d:=2) (k:=2) rfl (by omega) (by omega),back_w (t:=x8.1) (d:=7) (k:=7) rfl (by omega) (by omega),back_w (t:=x8.1) (d:=16) (k:=16) rfl (by omega) (by omega),Nat.add_zero,shr_eq]
                                                                                                     exact (word_hi (j:=16+x8.1) (by omega)).symm),trivial⟩)) (by first|omega|(dsimp only;omega)|(simp;omega))
  ·have g9:=cnd_dec_f h9
   exact k_out (Ent.islN (by omega) (fun i j _ _=>rfl))
theorem rwords_m (b:Nat→Int) (m:Nat) (hm:m=64) (hb:byB b 64):Pure Tryz.prog gl0 190 [bys m b] (.isl 1 64 fun i _=>.int .u32 (wordF b i)):=by subst hm;exact rwords_c b hb
theorem rsum_r (f:Nat→Int) (n:Nat) (hn:n≤1099511627776) (hf:byB f n) (w ST:Nat→Nat→Int) (R:Nat→Nat→Nat→Int) (h0:ST 0=stF) (hw:∀ (k:Nat) (q:Nat→Int) (i:Nat),(∀ i,i<64→q i=padF n f (64*k+i))→wordF q i=w k i)
  (hR:∀ k,Rnd (ST k) (w k) (R k)) (hS:∀ k i,ST (k+1) i=add32 (ST k i) (R k 64 i)):Pure Tryz.prog gl0 145 [bys n f] (.agg (u8c (outF (ST (padLen n / 64))))):=by
 have pl:=pad_len n
 refine pure_sk (own:=ow0) Tryz.func145 (by kernel_rfl) mixed (by kernel_rfl)
  (.dc (true) 188 ([]) (AV.isl (1:Nat) (64:Nat) fun (i x:Nat)=>Zw (kF i)) (.dc (true) 189 ([AV.isl (1) n fun (i x:Nat)=>Zb (f i)]) (bys (padLen n) (padF n f)) (.loop ({ x:Nat // x≤padLen n / (64:Nat) }) (fun (x:{ x:Nat // x≤padLen n / (64:Nat) })=>mkSt [2,3,4,5,6] [AV.own (0) (32) (0) (0) (32),AV.osl (1) (1) (0) (8),AV.isl (1) (64) fun (i x:Nat)=>Zw (kF i),AV.isl (1) (padLen n) fun (i x:Nat)=>Zb (padF n f i),Zi (↑((64:Nat)*x.1):Int)] [some { es:=32,n:=1,mu:=true,f:=Rep.lst [[Zb 0,Zb 0,Zb 0,Zb 0,Zb 0,Zb 0,Zb 0,Zb 0,Zb 0,Zb 0,Zb 0,Zb 0,Zb 0,Zb 0,Zb 0,Zb 0,Zb 0,Zb 0,Zb 0,Zb 0,Zb 0,Zb 0,Zb 0,Zb 0,Zb 0,Zb 0,Zb 0,Zb 0,Zb 0,Zb 0,Zb 0,Zb 0]] },some { es:=(1:Nat),n:=(8:Nat),mu:=true,f:=Rep.fn fun (i x_1:Nat)=>Zw (ST (x.1) i) }]) (fun (x:{ x:Nat // x≤padLen n / (64:Nat) })=>padLen n / (64:Nat) - x.1) (⟨(0:Nat),Nat.zero_le (padLen n / (64:Nat))⟩) ([2,3,4,5,6]) ([0,8]) ([AV.own (0) (32) (0) (0) (32),AV.osl (1) (1) (0) (8),AV.isl (1) (64) fun (i x:Nat)=>Zw (kF i),AV.isl (1) (padLen n) fun (i x:Nat)=>Zb (padF n f i),Zi 0]) ([some { es:=32,n:=1,mu:=true,f:=Rep.lst [[Zb 0,Zb 0,Zb 0,Zb 0,Zb 0,Zb 0,Zb 0,Zb 0,Zb 0,Zb 0,Zb 0,Zb 0,Zb 0,Zb 0,Zb 0,Zb 0,Zb 0,Zb 0,Zb 0,Zb 0,Zb 0,Zb 0,Zb 0,Zb 0,Zb 0,Zb 0,Zb 0,Zb 0,Zb 0,Zb 0,Zb 0,Zb 0]] },some { es:=1,n:=8,mu:=true,f:=Rep.lst [[Zw 1779033703],[Zw 3144134277],[Zw 1013904242],[Zw 2773480762],[Zw 1359893119],[Zw 2600822924],[Zw 528734635],[Zw 1541459225]] }]) (fun x2=>(.br (decide ((↑(64*x2.1):Int)<(↑(padLen n):Int))) (.req ((0:Int)≤(↑(64*x2.1):Int)∧(↑(64*x2.1):Int)≤IntKind.wrap IntKind.i64 ((↑(64*x2.1):Int)+(64:Int))∧IntKind.wrap IntKind.i64 ((↑(64*x2.1):Int)+(64:Int))≤(↑(padLen n):Int)) (.dc (true) 190 ([AV.isl (1) (Int.toNat (IntKind.wrap IntKind.i64 ((↑(64*x2.1):Int)+(64:Int))) - Int.toNat (↑(64*x2.1):Int)) fun (i j:Nat)=>Zb (padF n f (i+Int.toNat (↑(64*x2.1):Int)))]) (AV.isl (1:Nat) (64:Nat) fun (i x:Nat)=>Zw (wordF (fun (i:Nat)=>padF n f (i+Int.toNat (↑(64*x2.1):Int))) i)) (.req (32≤140737488355328) (.loop ({ x:Nat // x≤(64:Nat) }) (fun (x:{ x:Nat // x≤(64:Nat) })=>mkSt [2,3,4,5,6,7,8,9] [AV.own (0) (32) (0) (0) (32),AV.osl (1) (1) (0) (8),AV.isl (1) (64) fun (i x:Nat)=>Zw (kF i),AV.isl (1) (padLen n) fun (i x:Nat)=>Zb (padF n f i),Zi (↑(64*x2.1):Int),AV.isl (1:Nat) (64:Nat) fun (i x:Nat)=>Zw (w (x2.1) i),AV.osl (2:Nat) (1:Nat) (0:Nat) (8:Nat),Zi (↑(x.1):Int)] [some { es:=32,n:=1,mu:=true,f:=Rep.lst [[Zb 0,Zb 0,Zb 0,Zb 0,Zb 0,Zb 0,Zb 0,Zb 0,Zb 0,Zb 0,Zb 0,Zb 0,Zb 0,Zb 0,Zb 0,Zb 0,Zb 0,Zb 0,Zb 0,Zb 0,Zb 0,Zb 0,Zb 0,Zb 0,Zb 0,Zb 0,Zb 0,Zb 0,Zb 0,Zb 0,Zb 0,Zb 0]] },some { es:=1,n:=8,mu:=true,f:=Rep.fn fun (i j:Nat)=>Zw (ST (x2.1) i) },some { es:=(1:Nat),n:=(8:Nat),mu:=true,f:=Rep.fn fun (i x_1:Nat)=>Zw (R (x2.1) (x.1) i) }]) (fun (x:{ x:Nat // x≤(64:Nat) })=>(64:Nat) - x.1) (⟨(0:Nat),Nat.zero_le (64:Nat)⟩) ([2,3,4,5,6,7,8,9]) ([0,1,106]) ([AV.own (0) (32) (0) (0) (32),AV.osl (1) (1) (0) (8),AV.isl (1) (64) fun (i x:Nat)=>Zw (kF i),AV.isl (1) (padLen n) fun (i x:Nat)=>Zb (padF n f i),Zi (↑(64*x2.1):Int),AV.isl (1) (64) fun (i x:Nat)=>Zw (wordF (fun (i:Nat)=>padF n f (i+Int.toNat (↑(64*x2.1):Int))) i),AV.osl (2) (1) (0) (8),Zi 0]) ([some { es:=32,n:=1,mu:=true,f:=Rep.lst [[Zb 0,Zb 0,Zb 0,Zb 0,Zb 0,Zb 0,Zb 0,Zb 0,Zb 0,Zb 0,Zb 0,Zb 0,Zb 0,Zb 0,Zb 0,Zb 0,Zb 0,Zb 0,Zb 0,Zb 0,Zb 0,Zb 0,Zb 0,Zb 0,Zb 0,Zb 0,Zb 0,Zb 0,Zb 0,Zb 0,Zb 0,Zb 0]] },some { es:=1,n:=8,mu:=true,f:=Rep.fn fun (i j:Nat)=>Zw (ST (x2.1) i) },some { es:=1,n:=8,mu:=true,f:=Rep.fn fun (i j:Nat)=>Zw (ST (x2.1) (i+0)) }]) (fun x7=>(.br (decide ((↑x7.1:Int)<(64:Int))) (.req ((0:Int)≤(7:Int)∧(7:Int)<(↑(8):Int)) (.req ((0:Int)≤(4:Int)∧(4:Int)<(↑(8):Int)) (.sc (true) 191 ([Zw (R x2.1 x7.1 (4)),Zi 6]) (Zw (rotr (R x2.1 x7.1 (4)) (6:Nat))) (.req ((0:Int)≤(4:Int)∧(4:Int)<(↑(8):Int)) (.sc (true) 191 ([Zw (R x2.1 x7.1 (4)),Zi 11]) (Zw (rotr (R x2.1 x7.1 (4)) (11:Nat))) (.req ((0:Int)≤(4:Int)∧(4:Int)<(↑(8):Int)) (.sc (true) 191 ([Zw (R x2.1 x7.1 (4)),Zi 25]) (Zw (rotr (R x2.1 x7.1 (4)) (25:Nat))) (.req ((0:Int)≤(4:Int)∧(4:Int)<(↑(8):Int)) (.req ((0:Int)≤(5:Int)∧(5:Int)<(↑(8):Int)) (.req ((0:Int)≤(4:Int)∧(4:Int)<(↑(8):Int)) (.req ((0:Int)≤(6:Int)∧(6:Int)<(↑(8):Int)) (.req ((0:Int)≤(↑x7.1:Int)∧(↑x7.1:Int)<(↑(64):Int)) (.req ((0:Int)≤(↑x7.1:Int)∧(↑x7.1:Int)<(↑(64):Int)) (.req ((0:Int)≤(0:Int)∧(0:Int)<(↑(8):Int)) (.sc (true) 191 ([Zw (R x2.1 x7.1 (0)),Zi 2]) (Zw (rotr (R x2.1 x7.1 (0)) (2:Nat))) (.req ((0:Int)≤(0:Int)∧(0:Int)<(↑(8):Int)) (.sc (true) 191 ([Zw (R x2.1 x7.1 (0)),Zi 13]) (Zw (rotr (R x2.1 x7.1 (0)) (13:Nat))) (.req ((0:Int)≤(0:Int)∧(0:Int)<(↑(8):Int)) (.sc (true) 191 ([Zw (R x2.1 x7.1 (0)),Zi 22]) (Zw (rotr (R x2.1 x7.1 (0)) (22:Nat))) (.req ((0:Int)≤(0:Int)∧(0:Int)<(↑(8):Int)) (.req ((0:Int)≤(1:Int)∧(1:Int)<(↑(8):Int)) (.req ((0:Int)≤(0:Int)∧(0:Int)<(↑(8):Int)) (.req ((0:Int)≤(2:Int)∧(2:Int)<(↑(8):Int)) (.req ((0:Int)≤(1:Int)∧(1:Int)<(↑(8):Int)) (.req ((0:Int)≤(2:Int)∧(2:Int)<(↑(8):Int)) (.req ((0:Int)≤(0:Int)∧(0:Int)<(↑(8):Int)) (.req ((0:Int)≤(1:Int)∧(1:Int)<(↑(8):Int)) (.req ((0:Int)≤(2:Int)∧(2:Int)<(↑(8):Int)) (.req ((0:Int)≤(3:Int)∧(3:Int)<(↑(8):Int)) (.req ((0:Int)≤(4:Int)∧(4:Int)<(↑(8):Int)) (.req ((0:Int)≤(5:Int)∧(5:Int)<(↑(8):Int)) (.req ((0:Int)≤(6:Int)∧(6:Int)<(↑(8):Int)) (.again (Again (0) (fun (x:{ x:Nat // x≤(64:Nat) })=>mkSt [2,3,4,5,6,7,8,9] [AV.own (0) (32) (0) (0) (32),AV.osl (1) (1) (0) (8),AV.isl (1) (64) fun (i x:Nat)=>Zw (kF i),AV.isl (1) (padLen n) fun (i x:Nat)=>Zb (padF n f i),Zi (↑(64*x2.1):Int),AV.isl (1:Nat) (64:Nat) fun (i x:Nat)=>Zw (w (x2.1) i),AV.osl (2:Nat) (1:Nat) (0:Nat) (8:Nat),Zi (↑(x.1):Int)] [some { es:=32,n:=1,mu:=true,f:=Rep.lst [[Zb 0,Zb 0,Zb 0,Zb 0,Zb 0,Zb 0,Zb 0,Zb 0,Zb 0,Zb 0,Zb 0,Zb 0,Zb 0,Zb 0,Zb 0,Zb 0,Zb 0,Zb 0,Zb 0,Zb 0,Zb 0,Zb 0,Zb 0,Zb 0,Zb 0,Zb 0,Zb 0,Zb 0,Zb 0,Zb 0,Zb 0,Zb 0]] },some { es:=1,n:=8,mu:=true,f:=Rep.fn fun (i j:Nat)=>Zw (ST (x2.1) i) },some { es:=(1:Nat),n:=(8:Nat),mu:=true,f:=Rep.fn fun (i x_1:Nat)=>Zw (R (x2.1) (x.1) i) }]) (fun (x:{ x:Nat // x≤(64:Nat) })=>(64:Nat) - x.1) x7) ([2,3,4,5,6,7,8,9]) ([0,1,907]) ([AV.own (0) (32) (0) (0) (32),AV.osl (1) (1) (0) (8),AV.isl (1) (64) fun (i x:Nat)=>Zw (kF i),AV.isl (1) (padLen n) fun (i x:Nat)=>Zb (padF n f i),Zi (↑(64*x2.1):Int),AV.isl (1) (64) fun (i x:Nat)=>Zw (w x2.1 i),AV.osl (2) (1) (0) (8),Zi (IntKind.wrap IntKind.i64 ((↑x7.1:Int)+(1:Int)))]) ([some { es:=32,n:=1,mu:=true,f:=Rep.lst [[Zb 0,Zb 0,Zb 0,Zb 0,Zb 0,Zb 0,Zb 0,Zb 0,Zb 0,Zb 0,Zb 0,Zb 0,Zb 0,Zb 0,Zb 0,Zb 0,Zb 0,Zb 0,Zb 0,Zb 0,Zb 0,Zb 0,Zb 0,Zb 0,Zb 0,Zb 0,Zb 0,Zb 0,Zb 0,Zb 0,Zb 0,Zb 0]] },some { es:=1,n:=8,mu:=true,f:=Rep.fn fun (i j:Nat)=>Zw (ST (x2.1) i) },some { es:=1,n:=8,mu:=true,f:=Rep.lst [[Zw (IntKind.wrap IntKind.u32 (IntKind.wrap IntKind.u32 (IntKind.wrap IntKind.u32 (IntKind.wrap IntKind.u32 (IntKind.wrap IntKind.u32 (R x2.1 x7.1 (7)+IntKind.wrap IntKind.u32 (↑(BitVec.toNat (BitVec.ofInt (32) (IntKind.wrap IntKind.u32 (↑(BitVec.toNat (BitVec.ofInt (32) (rotr (R x2.1 x7.1 (4)) (6)) ^^^ BitVec.ofInt (32) (rotr (R x2.1 x7.1 (4)) (11)))):Int)) ^^^ BitVec.ofInt (32) (rotr (R x2.1 x7.1 (4)) (25)))):Int))+IntKind.wrap IntKind.u32 (↑(BitVec.toNat (BitVec.ofInt (32) (IntKind.wrap IntKind.u32 (↑(BitVec.toNat (BitVec.ofInt (32) (R x2.1 x7.1 (4)) &&& BitVec.ofInt (32) (R x2.1 x7.1 (5)))):Int)) ^^^ BitVec.ofInt (32) (IntKind.wrap IntKind.u32 (↑(BitVec.toNat (BitVec.ofInt (32) (IntKind.wrap IntKind.u32 (↑(BitVec.toNat (BitVec.ofInt (32) (if false=true then (-1:Int) else IntKind.max IntKind.u32) ^^^ BitVec.ofInt (32) (R x2.1 x7.1 (4)))):Int)) &&& BitVec.ofInt (32) (R x2.1 x7.1 (6)))):Int)))):Int))+kF (Int.toNat (↑x7.1:Int)))+w x2.1 (Int.toNat (↑x7.1:Int)))+IntKind.wrap IntKind.u32 (IntKind.wrap IntKind.u32 (↑(BitVec.toNat (BitVec.ofInt (32) (IntKind.wrap IntKind.u32 (↑(BitVec.toNat (BitVec.ofInt (32) (rotr (R x2.1 x7.1 (0)) (2)) ^^^ BitVec.ofInt (32) (rotr (R x2.1 x7.1 (0)) (13)))):Int)) ^^^ BitVec.ofInt (32) (rotr (R x2.1 x7.1 (0)) (22)))):Int)+IntKind.wrap IntKind.u32 (↑(BitVec.toNat (BitVec.ofInt (32) (IntKind.wrap IntKind.u32 (↑(BitVec.toNat (BitVec.ofInt (32) (IntKind.wrap IntKind.u32 (↑(BitVec.toNat (BitVec.ofInt (32) (R x2.1 x7.1 (0)) &&& BitVec.ofInt (32) (R x2.1 x7.1 (1)))):Int)) ^^^ BitVec.ofInt (32) (IntKind.wrap IntKind.u32 (↑(BitVec.toNat (BitVec.ofInt (32) (R x2.1 x7.1 (0)) &&& BitVec.ofInt (32) (R x2.1 x7.1 (2)))):Int)))):Int)) ^^^ BitVec.ofInt (32) (IntKind.wrap IntKind.u32 (↑(BitVec.toNat (BitVec.ofInt (32) (R x2.1 x7.1 (1)) &&& BitVec.ofInt (32) (R x2.1 x7.1 (2)))):Int)))):Int))))],[Zw (R (x2.1) (x7.1) (Int.toNat (0:Int)+(0:Nat)))],[Zw (R (x2.1) (x7.1) (Int.toNat (1:Int)+(0:Nat)))],[Zw (R (x2.1) (x7.1) (Int.toNat (2:Int)+(0:Nat)))],[Zw (IntKind.wrap IntKind.u32 (R x2.1 x7.1 (3)+IntKind.wrap IntKind.u32 (IntKind.wrap IntKind.u32 (IntKind.wrap IntKind.u32 (IntKind.wrap IntKind.u32 (R x2.1 x7.1 (7)+IntKind.wrap IntKind.u32 (↑(BitVec.toNat (BitVec.ofInt (32) (IntKind.wrap IntKind.u32 (↑(BitVec.toNat (BitVec.ofInt (32) (rotr (R x2.1 x7.1 (4)) (6)) ^^^ BitVec.ofInt (32) (rotr (R x2.1 x7.1 (4)) (11)))):Int)) ^^^ BitVec.ofInt (32) (rotr (R x2.1 x7.1 (4)) (25)))):Int))+IntKind.wrap IntKind.u32 (↑(BitVec.toNat (BitVec.ofInt (32) (IntKind.wrap IntKind.u32 (↑(BitVec.toNat (BitVec.ofInt (32) (R x2.1 x7.1 (4)) &&& BitVec.ofInt (32) (R x2.1 x7.1 (5)))):Int)) ^^^ BitVec.ofInt (32) (IntKind.wrap IntKind.u32 (↑(BitVec.toNat (BitVec.ofInt (32) (IntKind.wrap IntKind.u32 (↑(BitVec.toNat (BitVec.ofInt (32) (if false=true then (-1:Int) else IntKind.max IntKind.u32) ^^^ BitVec.ofInt (32) (R x2.1 x7.1 (4)))):Int)) &&& BitVec.ofInt (32) (R x2.1 x7.1 (6)))):Int)))):Int))+kF (Int.toNat (↑x7.1:Int)))+w x2.1 (Int.toNat (↑x7.1:Int)))))],[Zw (R (x2.1) (x7.1) (Int.toNat (4:Int)+(0:Nat)))],[Zw (R (x2.1) (x7.1) (Int.toNat (5:Int)+(0:Nat)))],[Zw (R (x2.1) (x7.1) (Int.toNat (6:Int)+(0:Nat)))]] }])))))))))))))))))))))))))))))))))) (.loop ({ x:Nat // x≤(8:Nat) }) (fun (x:{ x:Nat // x≤(8:Nat) })=>mkSt [2,3,4,5,6,8,12] [AV.own (0) (32) (0) (0) (32),AV.osl (1) (1) (0) (8),AV.isl (1) (64) fun (i x:Nat)=>Zw (kF i),AV.isl (1) (padLen n) fun (i x:Nat)=>Zb (padF n f i),Zi (↑(64*x2.1):Int),AV.osl (2) (1) (0) (8),Zi (↑(x.1):Int)] [some { es:=32,n:=1,mu:=true,f:=Rep.lst [[Zb 0,Zb 0,Zb 0,Zb 0,Zb 0,Zb 0,Zb 0,Zb 0,Zb 0,Zb 0,Zb 0,Zb 0,Zb 0,Zb 0,Zb 0,Zb 0,Zb 0,Zb 0,Zb 0,Zb 0,Zb 0,Zb 0,Zb 0,Zb 0,Zb 0,Zb 0,Zb 0,Zb 0,Zb 0,Zb 0,Zb 0,Zb 0]] },some { es:=(1:Nat),n:=(8:Nat),mu:=true,f:=Rep.fn fun (q x_1:Nat)=>Zw (bif Nat.blt q (x.1) then ST (x2.1+(1:Nat)) q else ST (x2.1) q) },some { es:=1,n:=8,mu:=true,f:=Rep.fn fun (i j:Nat)=>Zw (R (x2.1) (x7.1) i) }]) (fun (x:{ x:Nat // x≤(8:Nat) })=>(8:Nat) - x.1) (⟨(0:Nat),Nat.zero_le (8:Nat)⟩) ([2,3,4,5,6,8,12]) ([0,1,2]) ([AV.own (0) (32) (0) (0) (32),AV.osl (1) (1) (0) (8),AV.isl (1) (64) fun (i x:Nat)=>Zw (kF i),AV.isl (1) (padLen n) fun (i x:Nat)=>Zb (padF n f i),Zi (↑(64*x2.1):Int),AV.osl (2) (1) (0) (8),Zi 0]) ([some { es:=32,n:=1,mu:=true,f:=Rep.lst [[Zb 0,Zb 0,Zb 0,Zb 0,Zb 0,Zb 0,Zb 0,Zb 0,Zb 0,Zb 0,Zb 0,Zb 0,Zb 0,Zb 0,Zb 0,Zb 0,Zb 0,Zb 0,Zb 0,Zb 0,Zb 0,Zb 0,Zb 0,Zb 0,Zb 0,Zb 0,Zb 0,Zb 0,Zb 0,Zb 0,Zb 0,Zb 0]] },some { es:=1,n:=8,mu:=true,f:=Rep.fn fun (i j:Nat)=>Zw (ST (x2.1) i) },some { es:=1,n:=8,mu:=true,f:=Rep.fn fun (i j:Nat)=>Zw (R (x2.1) (x7.1) i) }]) (fun x42=>(.br (decide ((↑x42.1:Int)<(8:Int))) (.req ((0:Int)≤(↑x42.1:Int)∧(↑x42.1:Int)<(↑(8):Int)) (.req ((0:Int)≤(↑x42.1:Int)∧(↑x42.1:Int)<(↑(8):Int)) (.req ((0:Int)≤(↑x42.1:Int)∧(↑x42.1:Int)<(↑(8):Int)) (.again (Again (0) (fun (x:{ x:Nat // x≤(8:Nat) })=>mkSt [2,3,4,5,6,8,12] [AV.own (0) (32) (0) (0) (32),AV.osl (1) (1) (0) (8),AV.isl (1) (64) fun (i x:Nat)=>Zw (kF i),AV.isl (1) (padLen n) fun (i x:Nat)=>Zb (padF n f i),Zi (↑(64*x2.1):Int),AV.osl (2) (1) (0) (8),Zi (↑(x.1):Int)] [some { es:=32,n:=1,mu:=true,f:=Rep.lst [[Zb 0,Zb 0,Zb 0,Zb 0,Zb 0,Zb 0,Zb 0,Zb 0,Zb 0,Zb 0,Zb 0,Zb 0,Zb 0,Zb 0,Zb 0,Zb 0,Zb 0,Zb 0,Zb 0,Zb 0,Zb 0,Zb 0,Zb 0,Zb 0,Zb 0,Zb 0,Zb 0,Zb 0,Zb 0,Zb 0,Zb 0,Zb 0]] },some { es:=(1:Nat),n:=(8:Nat),mu:=true,f:=Rep.fn fun (q x_1:Nat)=>Zw (bif Nat.blt q (x.1) then ST (x2.1+(1:Nat)) q else ST (x2.1) q) },some { es:=1,n:=8,mu:=true,f:=Rep.fn fun (i j:Nat)=>Zw (R (x2.1) (x7.1) i) }]) (fun (x:{ x:Nat // x≤(8:Nat) })=>(8:Nat) - x.1) x42) ([2,3,4,5,6,8,12]) ([0,1,2]) ([AV.own (0) (32) (0) (0) (32),AV.osl (1) (1) (0) (8),AV.isl (1) (64) fun (i x:Nat)=>Zw (kF i),AV.isl (1) (padLen n) fun (i x:Nat)=>Zb (padF n f i),Zi (↑(64*x2.1):Int),AV.osl (2) (1) (0) (8),Zi (IntKind.wrap IntKind.i64 ((↑x42.1:Int)+(1:Int)))]) ([some { es:=32,n:=1,mu:=true,f:=Rep.lst [[Zb 0,Zb 0,Zb 0,Zb 0,Zb 0,Zb 0,Zb 0,Zb 0,Zb 0,Zb 0,Zb 0,Zb 0,Zb 0,Zb 0,Zb 0,Zb 0,Zb 0,Zb 0,Zb 0,Zb 0,Zb 0,Zb 0,Zb 0,Zb 0,Zb 0,Zb 0,Zb 0,Zb 0,Zb 0,Zb 0,Zb 0,Zb 0]] },some { es:=1,n:=8,mu:=true,f:=Rep.fn fun (i j:Nat)=>Zw (bif Nat.beq i (Int.toNat (↑x42.1:Int)+0)&&(Nat.ble (0) j&&Nat.blt j (1)) then IntKind.wrap IntKind.u32 ((bif Nat.blt (Int.toNat (↑x42.1:Int)+0) x42.1 then ST (x2.1+1) (Int.toNat (↑x42.1:Int)+0) else ST x2.1 (Int.toNat (↑x42.1:Int)+0))+R x2.1 x7.1 (Int.toNat (↑x42.1:Int)+0)) else bif Nat.blt i x42.1 then ST (x2.1+1) i else ST x2.1 i) },some { es:=1,n:=8,mu:=true,f:=Rep.fn fun (i j:Nat)=>Zw (R (x2.1) (x7.1) i) }]))))) (.again (Again (0) (fun (x:{ x:Nat // x≤padLen n / (64:Nat) })=>mkSt [2,3,4,5,6] [AV.own (0) (32) (0) (0) (32),AV.osl (1) (1) (0) (8),AV.isl (1) (64) fun (i x:Nat)=>Zw (kF i),AV.isl (1) (padLen n) fun (i x:Nat)=>Zb (padF n f i),Zi (↑((64:Nat)*x.1):Int)] [some { es:=32,n:=1,mu:=true,f:=Rep.lst [[Zb 0,Zb 0,Zb 0,Zb 0,Zb 0,Zb 0,Zb 0,Zb 0,Zb 0,Zb 0,Zb 0,Zb 0,Zb 0,Zb 0,Zb 0,Zb 0,Zb 0,Zb 0,Zb 0,Zb 0,Zb 0,Zb 0,Zb 0,Zb 0,Zb 0,Zb 0,Zb 0,Zb 0,Zb 0,Zb 0,Zb 0,Zb 0]] },some { es:=(1:Nat),n:=(8:Nat),mu:=true,f:=Rep.fn fun (i x_1:Nat)=>Zw (ST (x.1) i) }]) (fun (x:{ x:Nat // x≤padLen n / (64:Nat) })=>padLen n / (64:Nat) - x.1) x2) ([2,3,4,5,6]) ([0,1]) ([AV.own (0) (32) (0) (0) (32),AV.osl (1) (1) (0) (8),AV.isl (1) (64) fun (i x:Nat)=>Zw (kF i),AV.isl (1) (padLen n) fun (i x:Nat)=>Zb (padF n f i),Zi (IntKind.wrap IntKind.i64 ((↑(64*x2.1):Int)+(64:Int)))]) ([some { es:=32,n:=1,mu:=true,f:=Rep.lst [[Zb 0,Zb 0,Zb 0,Zb 0,Zb 0,Zb 0,Zb 0,Zb 0,Zb 0,Zb 0,Zb 0,Zb 0,Zb 0,Zb 0,Zb 0,Zb 0,Zb 0,Zb 0,Zb 0,Zb 0,Zb 0,Zb 0,Zb 0,Zb 0,Zb 0,Zb 0,Zb 0,Zb 0,Zb 0,Zb 0,Zb 0,Zb 0]] },some { es:=1,n:=8,mu:=true,f:=Rep.fn fun (i j:Nat)=>Zw (bif Nat.blt i x42.1 then ST (x2.1+1) i else ST x2.1 i) }]))))))))))) (.loop ({ x:Nat // x≤(32:Nat) }) (fun (x:{ x:Nat // x≤(32:Nat) })=>mkSt [2,3,13,14] [AV.own (0) (32) (0) (0) (32),AV.osl (1) (1) (0) (8),AV.own (2) (32) (0) (0) (32),Zi (↑(x.1):Int)] [some { es:=32,n:=1,mu:=true,f:=Rep.lst [[Zb 0,Zb 0,Zb 0,Zb 0,Zb 0,Zb 0,Zb 0,Zb 0,Zb 0,Zb 0,Zb 0,Zb 0,Zb 0,Zb 0,Zb 0,Zb 0,Zb 0,Zb 0,Zb 0,Zb 0,Zb 0,Zb 0,Zb 0,Zb 0,Zb 0,Zb 0,Zb 0,Zb 0,Zb 0,Zb 0,Zb 0,Zb 0]] },some { es:=(1:Nat),n:=(8:Nat),mu:=true,f:=Rep.fn fun (q x:Nat)=>Zw (ST (padLen n / (64:Nat)) q) },some { es:=(32:Nat),n:=(1:Nat),mu:=true,f:=Rep.fn fun (x_1 j:Nat)=>Zb (bif Nat.blt j (x.1) then outF (ST (padLen n / (64:Nat))) j else (0:Int)) }]) (fun (x:{ x:Nat // x≤(32:Nat) })=>(32:Nat) - x.1) (⟨(0:Nat),Nat.zero_le (32:Nat)⟩) ([2,3,13,14]) ([0,1,34]) ([AV.own (0) (32) (0) (0) (32),AV.osl (1) (1) (0) (8),AV.own (2) (32) (0) (0) (32),Zi 0]) ([some { es:=32,n:=1,mu:=true,f:=Rep.lst [[Zb 0,Zb 0,Zb 0,Zb 0,Zb 0,Zb 0,Zb 0,Zb 0,Zb 0,Zb 0,Zb 0,Zb 0,Zb 0,Zb 0,Zb 0,Zb 0,Zb 0,Zb 0,Zb 0,Zb 0,Zb 0,Zb 0,Zb 0,Zb 0,Zb 0,Zb 0,Zb 0,Zb 0,Zb 0,Zb 0,Zb 0,Zb 0]] },some { es:=1,n:=8,mu:=true,f:=Rep.fn fun (i j:Nat)=>Zw (ST (x2.1) i) },some { es:=32,n:=1,mu:=true,f:=Rep.lst [[Zb 0,Zb 0,Zb 0,Zb 0,Zb 0,Zb 0,Zb 0,Zb 0,Zb 0,Zb 0,Zb 0,Zb 0,Zb 0,Zb 0,Zb 0,Zb 0,Zb 0,Zb 0,Zb 0,Zb 0,Zb 0,Zb 0,Zb 0,Zb 0,Zb 0,Zb 0,Zb 0,Zb 0,Zb 0,Zb 0,Zb 0,Zb 0]] }]) (fun x49=>(.br (decide ((↑x49.1:Int)<(32:Int))) (.req ((0:Int)≤IntKind.wrap IntKind.i64 (Int.tdiv (↑x49.1:Int) (4:Int))∧IntKind.wrap IntKind.i64 (Int.tdiv (↑x49.1:Int) (4:Int))<(↑(8):Int)) (.req ((0:Int)≤IntKind.wrap IntKind.i64 ((24:Int) - IntKind.wrap IntKind.i64 ((8:Int)*Int.tmod (↑x49.1:Int) (4:Int)))) (.req ((0:Int)≤(↑x49.1:Int)∧(↑x49.1:Int)<(↑(32):Int)) (.again (Again (0) (fun (x:{ x:Nat // x≤(32:Nat) })=>mkSt [2,3,13,14] [AV.own (0) (32) (0) (0) (32),AV.osl (1) (1) (0) (8),AV.own (2) (32) (0) (0) (32),Zi (↑(x.1):Int)] [some { es:=32,n:=1,mu:=true,f:=Rep.lst [[Zb 0,Zb 0,Zb 0,Zb 0,Zb 0,Zb 0,Zb 0,Zb 0,Zb 0,Zb 0,Zb 0,Zb 0,Zb 0,Zb 0,Zb 0,Zb 0,Zb 0,Zb 0,Zb 0,Zb 0,Zb 0,Zb 0,Zb 0,Zb 0,Zb 0,Zb 0,Zb 0,Zb 0,Zb 0,Zb 0,Zb 0,Zb 0]] },some { es:=(1:Nat),n:=(8:Nat),mu:=true,f:=Rep.fn fun (q x:Nat)=>Zw (ST (padLen n / (64:Nat)) q) },some { es:=(32:Nat),n:=(1:Nat),mu:=true,f:=Rep.fn fun (x_1 j:Nat)=>Zb (bif Nat.blt j (x.1) then outF (ST (padLen n / (64:Nat))) j else (0:Int)) }]) (fun (x:{ x:Nat // x≤(32:Nat) })=>(32:Nat) - x.1) x49) ([2,3,13,14]) ([0,1,2]) ([AV.own (0) (32) (0) (0) (32),AV.osl (1) (1) (0) (8),AV.own (2) (32) (0) (0) (32),Zi (IntKind.wrap IntKind.i64 ((↑x49.1:Int)+(1:Int)))]) ([some { es:=32,n:=1,mu:=true,f:=Rep.lst [[Zb 0,Zb 0,Zb 0,Zb 0,Zb 0,Zb 0,Zb 0,Zb 0,Zb 0,Zb 0,Zb 0,Zb 0,Zb 0,Zb 0,Zb 0,Zb 0,Zb 0,Zb 0,Zb 0,Zb 0,Zb 0,Zb 0,Zb 0,Zb 0,Zb 0,Zb 0,Zb 0,Zb 0,Zb 0,Zb 0,Zb 0,Zb 0]] },some { es:=1,n:=8,mu:=true,f:=Rep.fn fun (i j:Nat)=>Zw (ST (padLen n / (64:Nat)) i) },some { es:=32,n:=1,mu:=true,f:=Rep.fn fun (i j:Nat)=>Zb (bif Nat.beq i (0)&&Nat.beq j (0+Int.toNat (↑x49.1:Int)) then IntKind.wrap IntKind.u8 (Int.fdiv (ST (padLen n / 64) (Int.toNat (IntKind.wrap IntKind.i64 (Int.tdiv (↑x49.1:Int) (4:Int)))+0)) ((2:Int)^min (Int.toNat (IntKind.wrap IntKind.i64 ((24:Int) - IntKind.wrap IntKind.i64 ((8:Int)*Int.tmod (↑x49.1:Int) (4:Int))))) (32))) else bif Nat.blt j x49.1 then outF (ST (padLen n / 64)) j else (0:Int)) }]))))) (.out (AV.agg [Zb (bif Nat.blt (0) x49.1 then outF (ST (padLen n / 64)) (0) else (0:Int)),Zb (bif Nat.blt (1) x49.1 then outF (ST (padLen n / 64)) (1) else (0:Int)),Zb (bif Nat.blt (2) x49.1 then outF (ST (padLen n / 64)) (2) else (0:Int)),Zb (bif Nat.blt (3) x49.1 then outF (ST (padLen n / 64)) (3) else (0:Int)),Zb (bif Nat.blt (4) x49.1 then outF (ST (padLen n / 64)) (4) else (0:Int)),Zb (bif Nat.blt (5) x49.1 then outF (ST (padLen n / 64)) (5) else (0:Int)),Zb (bif Nat.blt (6) x49.1 then outF (ST (padLen n / 64)) (6) else (0:Int)),Zb (bif Nat.blt (7) x49.1 then outF (ST (padLen n / 64)) (7) else (0:Int)),Zb (bif Nat.blt (8) x49.1 then outF (ST (padLen n / 64)) (8) else (0:Int)),Zb (bif Nat.blt (9) x49.1 then outF (ST (padLen n / 64)) (9) else (0:Int)),Zb (bif Nat.blt (10) x49.1 then outF (ST (padLen n / 64)) (10) else (0:Int)),Zb (bif Nat.blt (11) x49.1 then outF (ST (padLen n / 64)) (11) else (0:Int)),Zb (bif Nat.blt (12) x49.1 then outF (ST (padLen n / 64)) (12) else (0:Int)),Zb (bif Nat.blt (13) x49.1 then outF (ST (padLen n / 64)) (13) else (0:Int)),Zb (bif Nat.blt (14) x49.1 then outF (ST (padLen n / 64)) (14) else (0:Int)),Zb (bif Nat.blt (15) x49.1 then outF (ST (padLen n / 64)) (15) else (0:Int)),Zb (bif Nat.blt (16) x49.1 then outF (ST (padLen n / 64)) (16) else (0:Int)),Zb (bif Nat.blt (17) x49.1 then outF (ST (padLen n / 64)) (17) else (0:Int)),Zb (bif Nat.blt (18) x49.1 then outF (ST (padLen n / 64)) (18) else (0:Int)),Zb (bif Nat.blt (19) x49.1 then outF (ST (padLen n / 64)) (19) else (0:Int)),Zb (bif Nat.blt (20) x49.1 then outF (ST (padLen n / 64)) (20) else (0:Int)),Zb (bif Nat.blt (21) x49.1 then outF (ST (padLen n / 64)) (21) else (0:Int)),Zb (bif Nat.blt (22) x49.1 then outF (ST (padLen n / 64)) (22) else (0:Int)),Zb (bif Nat.blt (23) x49.1 then outF (ST (padLen n / 64)) (23) else (0:Int)),Zb (bif Nat.blt (24) x49.1 then outF (ST (padLen n / 64)) (24) else (0:Int)),Zb (bif Nat.blt (25) x49.1 then outF (ST (padLen n / 64)) (25) else (0:Int)),Zb (bif Nat.blt (26) x49.1 then outF (ST (padLen n / 64)) (26) else (0:Int)),Zb (bif Nat.blt (27) x49.1 then outF (ST (padLen n / 64)) (27) else (0:Int)),Zb (bif Nat.blt (28) x49.1 then outF (ST (padLen n / 64)) (28) else (0:Int)),Zb (bif Nat.blt (29) x49.1 then outF (ST (padLen n / 64)) (29) else (0:Int)),Zb (bif Nat.blt (30) x49.1 then outF (ST (padLen n / 64)) (30) else (0:Int)),Zb (bif Nat.blt (31) x49.1 then outF (ST (padLen n / 64)) (31) else (0:Int))]) [] (AV.agg (u8c (outF (ST (padLen n / (64:Nat)))))) [])))))))))
  (by kernel_rfl) ?_
 refine k_dc (constants_c) ?_
 refine k_dc (padded_c (f) (n) (by first|omega|assumption|(rw [w64 hn (by omega)];omega)|exact fun i _=>pad_by hf _)) ?_
 refine k_loop (fun _ hs=>hs.le (by repeat' (first|exact trivial|(first|exact Ent.refl _|exact inc_ent (by omega)|exact Ent.nil rfl|exact Ent.of_eq (congrArg (AV.osl _ _ _) (by first|omega|(dsimp only;omega)))|exact Ent.of_eq (congrArg (AV.int _) (by first|omega|(dsimp only;omega))))|refine And.intro ?_ ?_)) (⟨by first|exact ObEnt.refl _|exact ObEnt.junk|exact ObEnt.zero|exact ObEnt.push rfl rfl|exact ObEnt.pushRow rfl|exact ObEnt.len (by omega)|exact ObEnt.row (by repeat' (first|exact trivial|(first|exact Ent.refl _|exact inc_ent (by omega)|exact Ent.nil rfl|exact Ent.of_eq (congrArg (AV.osl _ _ _) (by first|omega|(dsimp only;omega)))|exact Ent.of_eq (congrArg (AV.int _) (by first|omega|(dsimp only;omega))))|refine And.intro ?_ ?_)),st_ob h0,trivial⟩)) (fun x2=>?_)
 try (have q2:=x2.2;dsimp only at q2)
 refine k_br (fun h3=>?_) (fun h3=>?_)
 ·have g3:=cnd_dec_t h3
  refine k_req (by rw [w64 hn (by omega)];omega) ?_
  refine k_dc (rwords_m (fun (i:Nat)=>padF n f (i+Int.toNat (↑(64*x2.1):Int))) (Int.toNat (IntKind.wrap IntKind.i64 ((↑(64*x2.1):Int)+(64:Int))) - Int.toNat (↑(64*x2.1):Int)) (by first|omega|assumption|(rw [w64 hn (by omega)];omega)|exact fun i _=>pad_by hf _) (by first|omega|assumption|(rw [w64 hn (by omega)];omega)|exact fun i _=>pad_by hf _)) ?_
  refine k_req (by first|omega|(simp only [Int.toNat_natCast];omega)) ?_
  refine k_loop (fun _ hs=>hs.le (⟨by first|exact Ent.refl _|exact inc_ent (by omega)|exact Ent.nil rfl|exact Ent.of_eq (congrArg (AV.osl _ _ _) (by first|omega|(dsimp only;omega)))|exact Ent.of_eq (congrArg (AV.int _) (by first|omega|(dsimp only;omega))),by first|exact Ent.refl _|exact inc_ent (by omega)|exact Ent.nil rfl|exact Ent.of_eq (congrArg (AV.osl _ _ _) (by first|omega|(dsimp only;omega)))|exact Ent.of_eq (congrArg (AV.int _) (by first|omega|(dsimp only;omega))),by first|exact Ent.refl _|exact inc_ent (by omega)|exact Ent.nil rfl|exact Ent.of_eq (congrArg (AV.osl _ _ _) (by first|omega|(dsimp only;omega)))|exact Ent.of_eq (congrArg (AV.int _) (by first|omega|(dsimp only;omega))),by first|exact Ent.refl _|exact inc_ent (by omega)|exact Ent.nil rfl|exact Ent.of_eq (congrArg (AV.osl _ _ _) (by first|omega|(dsimp only;omega)))|exact Ent.of_eq (congrArg (AV.int _) (by first|omega|(dsimp only;omega))),by first|exact Ent.refl _|exact inc_ent (by omega)|exact Ent.nil rfl|exact Ent.of_eq (congrArg (AV.osl _ _ _) (by first|omega|(dsimp only;omega)))|exact Ent.of_eq (congrArg (AV.int _) (by first|omega|(dsimp only;omega))),Ent.islN rfl (fun i j _ _=>congrArg _ (hw x2.1 _ i (fun q _=>congrArg (padF n f) (by (try simp only [Int.toNat_natCast]);omega)))),by first|exact Ent.refl _|exact inc_ent (by omega)|exact Ent.nil rfl|exact Ent.of_eq (congrArg (AV.osl _ _ _) (by first|omega|(dsimp only;omega)))|exact Ent.of_eq (congrArg (AV.int _) (by first|omega|(dsimp only;omega))),by first|exact Ent.refl _|exact inc_ent (by omega)|exact Ent.nil rfl|exact Ent.of_eq (congrArg (AV.osl _ _ _) (by first|omega|(dsimp only;omega)))|exact Ent.of_eq (congrArg (AV.int _) (by first|omega|(dsimp only;omega))),trivial⟩) (⟨by first|exact ObEnt.refl _|exact ObEnt.junk|exact ObEnt.zero|exact ObEnt.push rfl rfl|exact ObEnt.pushRow rfl|exact ObEnt.len (by omega)|exact ObEnt.row (by repeat' (first|exact trivial|(first|exact Ent.refl _|exact inc_ent (by omega)|exact Ent.nil rfl|exact Ent.of_eq (congrArg (AV.osl _ _ _) (by first|omega|(dsimp only;omega)))|exact Ent.of_eq (congrArg (AV.int _) (by first|omega|(dsimp only;omega))))|refine And.intro ?_ ?_)),by first|exact ObEnt.refl _|exact ObEnt.junk|exact ObEnt.zero|exact ObEnt.push rfl rfl|exact ObEnt.pushRow rfl|exact ObEnt.len (by omega)|exact ObEnt.row (by repeat' (first|exact trivial|(first|exact Ent.refl _|exact inc_ent (by omega)|exact Ent.nil rfl|exact Ent.of_eq (congrArg (AV.osl _ _ _) (by first|omega|(dsimp only;omega)))|exact Ent.of_eq (congrArg (AV.int _) (by first|omega|(dsimp only;omega))))|refine And.intro ?_ ?_)),ObEnt.fnF rfl (fun i _=>((hR x2.1).z i).symm),trivial⟩)) (fun x7=>?_)
  try (have q7:=x7.2;dsimp only at q7)
  refine k_br (fun h8=>?_) (fun h8=>?_)
  ·have g8:=cnd_dec_t h8
   refine k_req (by first|omega|(simp only [Int.toNat_natCast];omega)) ?_
   refine k_req (by first|omega|(simp only [Int.toNat_natCast];omega)) ?_
   refine k_sc ((fun (x:Int)=>rright_c x (6:Nat)) (R x2.1 x7.1 (4)) (by first|omega|assumption|(rw [w64 hn (by omega)];omega)|exact fun i _=>pad_by hf _) (by first|omega|assumption|(rw [w64 hn (by omega)];omega)|exact fun i _=>pad_by hf _)) ?_
   refine k_req (by first|omega|(simp only [Int.toNat_natCast];omega)) ?_
   refine k_sc ((fun (x:Int)=>rright_c x (11:Nat)) (R x2.1 x7.1 (4)) (by first|omega|assumption|(rw [w64 hn (by omega)];omega)|exact fun i _=>pad_by hf _) (by first|omega|assumption|(rw [w64 hn (by omega)];omega)|exact fun i _=>pad_by hf _)) ?_
   refine k_req (by first|omega|(simp only [Int.toNat_natCast];omega)) ?_
   refine k_sc ((fun (x:Int)=>rright_c x (25:Nat)) (R x2.1 x7.1 (4)) (by first|omega|assumption|(rw [w64 hn (by omega)];omega)|exact fun i _=>pad_by hf _) (by first|omega|assumption|(rw [w64 hn (by omega)];omega)|exact fun i _=>pad_by hf _)) ?_
   refine k_req (by first|omega|(simp only [Int.toNat_natCast];omega)) ?_
   refine k_req (by first|omega|(simp only [Int.toNat_natCast];omega)) ?_
   refine k_req (by first|omega|(simp only [Int.toNat_natCast];omega)) ?_
   refine k_req (by first|omega|(simp only [Int.toNat_natCast];omega)) ?_
   refine k_req (by first|omega|(simp only [Int.toNat_natCast];omega)) ?_
   refine k_req (by first|omega|(simp only [Int.toNat_natCast];omega)) ?_
   refine k_req (by first|omega|(simp only [Int.toNat_natCast];omega)) ?_
   refine k_sc ((fun (x:Int)=>rright_c x (2:Nat)) (R x2.1 x7.1 (0)) (by first|omega|assumption|(rw [w64 hn (by omega)];omega)|exact fun i _=>pad_by hf _) (by first|omega|assumption|(rw [w64 hn (by omega)];omega)|exact fun i _=>pad_by hf _)) ?_
   refine k_req (by first|omega|(simp only [Int.toNat_natCast];omega)) ?_
   refine k_sc ((fun (x:Int)=>rright_c x (13:Nat)) (R x2.1 x7.1 (0)) (by first|omega|assumption|(rw [w64 hn (by omega)];omega)|exact fun i _=>pad_by hf _) (by first|omega|assumption|(rw [w64 hn (by omega)];omega)|exact fun i _=>pad_by hf _)) ?_
   refine k_req (by first|omega|(simp only [Int.toNat_natCast];omega)) ?_
   refine k_sc ((fun (x:Int)=>rright_c x (22:Nat)) (R x2.1 x7.1 (0)) (by first|omega|assumption|(rw [w64 hn (by omega)];omega)|exact fun i _=>pad_by hf _) (by first|omega|assumption|(rw [w64 hn (by omega)];omega)|exact fun i _=>pad_by hf _)) ?_
   refine k_req (by first|omega|(simp only [Int.toNat_natCast];omega)) ?_
   refine k_req (by first|omega|(simp only [Int.toNat_natCast];omega)) ?_
   refine k_req (by first|omega|(simp only [Int.toNat_natCast];omega)) ?_
   refine k_req (by first|omega|(simp only [Int.toNat_natCast];omega)) ?_
   refine k_req (by first|omega|(simp only [Int.toNat_natCast];omega)) ?_
   refine k_req (by first|omega|(simp only [Int.toNat_natCast];omega)) ?_
   refine k_req (by first|omega|(simp only [Int.toNat_natCast];omega)) ?_
   refine k_req (by first|omega|(simp only [Int.toNat_natCast];omega)) ?_
   refine k_req (by first|omega|(simp only [Int.toNat_natCast];omega)) ?_
   refine k_req (by first|omega|(simp only [Int.toNat_natCast];omega)) ?_
   refine k_req (by first|omega|(simp only [Int.toNat_natCast];omega)) ?_
   refine k_req (by first|omega|(simp only [Int.toNat_natCast];omega)) ?_
   refine k_req (by first|omega|(simp only [Int.toNat_natCast];omega)) ?_
   exact k_again (⟨x7.1+1,by omega⟩) (fun _ hs=>hs.le (by repeat' (first|exact trivial|(first|exact Ent.refl _|exact inc_ent (by omega)|exact Ent.nil rfl|exact Ent.of_eq (congrArg (AV.osl _ _ _) (by first|omega|(dsimp only;omega)))|exact Ent.of_eq (congrArg (AV.int _) (by first|omega|(dsimp only;omega))))|refine And.intro ?_ ?_)) (⟨by first|exact ObEnt.refl _|exact ObEnt.junk|exact ObEnt.zero|exact ObEnt.push rfl rfl|exact ObEnt.pushRow rfl|exact ObEnt.len (by omega)|exact ObEnt.row (by repeat' (first|exact trivial|(first|exact Ent.refl _|exact inc_ent (by omega)|exact Ent.nil rfl|exact Ent.of_eq (congrArg (AV.osl _ _ _) (by first|omega|(dsimp only;omega)))|exact Ent.of_eq (congrArg (AV.int _) (by first|omega|(dsimp only;omega))))|refine And.intro ?_ ?_)),by first|exact ObEnt.refl _|exact ObEnt.junk|exact ObEnt.zero|exact ObEnt.push rfl rfl|exact ObEnt.pushRow rfl|exact ObEnt.len (by omega)|exact ObEnt.row (by repeat' (first|exact trivial|(first|exact Ent.refl _|exact inc_ent (by omega)|exact Ent.nil rfl|exact Ent.of_eq (congrArg (AV.osl _ _ _) (by first|omega|(dsimp only;omega)))|exact Ent.of_eq (congrArg (AV.int _) (by first|omega|(dsimp only;omega))))|refine And.intro ?_ ?_)),rnd_ob (hR x2.1) (by rw [(hR x2.1).s0];simp only [Int.toNat_natCast];rfl) (by rw [(hR x2.1).s4];simp only [Int.toNat_natCast];rfl),trivial⟩)) (by first|omega|(dsimp only;omega)|(simp;omega))
  ·have g8:=cnd_dec_f h8
   refine k_loop (fun _ hs=>hs.le (by repeat' (first|exact trivial|(first|exact Ent.refl _|exact inc_ent (by omega)|exact Ent.nil rfl|exact Ent.of_eq (congrArg (AV.osl _ _ _) (by first|omega|(dsimp only;omega)))|exact Ent.of_eq (congrArg (AV.int _) (by first|omega|(dsimp only;omega))))|refine And.intro ?_ ?_)) (by repeat' (first|exact trivial|(first|exact ObEnt.refl _|exact ObEnt.junk|exact ObEnt.zero|exact ObEnt.push rfl rfl|exact ObEnt.pushRow rfl|exact ObEnt.len (by omega)|exact ObEnt.row (by repeat' (first|exact trivial|(first|exact Ent.refl _|exact inc_ent (by omega)|exact Ent.nil rfl|exact Ent.of_eq (congrArg (AV.osl _ _ _) (by first|omega|(dsimp only;omega)))|exact Ent.of_eq (congrArg (AV.int _) (by first|omega|(dsimp only;omega))))|refine And.intro ?_ ?_)))|refine And.intro ?_ ?_))) (fun x42=>?_)
   try (have q42:=x42.2;dsimp only at q42)
   refine k_br (fun h43=>?_) (fun h43=>?_)
   ·have g43:=cnd_dec_t h43
    refine k_req (by first|omega|(simp only [Int.toNat_natCast];omega)) ?_
    refine k_req (by first|omega|(simp only [Int.toNat_natCast];omega)) ?_
    refine k_req (by first|omega|(simp only [Int.toNat_natCast];omega)) ?_
    exact k_again (⟨x42.1+1,by omega⟩) (fun _ hs=>hs.le (by repeat' (first|exact trivial|(first|exact Ent.refl _|exact inc_ent (by omega)|exact Ent.nil rfl|exact Ent.of_eq (congrArg (AV.osl _ _ _) (by first|omega|(dsimp only;omega)))|exact Ent.of_eq (congrArg (AV.int _) (by first|omega|(dsimp only;omega))))|refine And.intro ?_ ?_)) (⟨by first|exact ObEnt.refl _|exact ObEnt.junk|exact ObEnt.zero|exact ObEnt.push rfl rfl|exact ObEnt.pushRow rfl|exact ObEnt.len (by omega)|exact ObEnt.row (by repeat' (first|exact trivial|(first|exact Ent.refl _|exact inc_ent (by omega)|exact Ent.nil rfl|exact Ent.of_eq (congrArg (AV.osl _ _ _) (by first|omega|(dsimp only;omega)))|exact Ent.of_eq (congrArg (AV.int _) (by first|omega|(dsimp only;omega))))|refine And.intro ?_ ?_)),ObEnt.setF (i0:=x42.1) (G:=fun q=>bif Nat.blt q (x42.1+1) then ST (x2.1+1) q else ST x2.1 q) (by
                                                                                                     have e:x7.1=64:=by omega
                                                                                                     simp only [Nat.add_zero,Int.toNat_natCast,blt_f (Nat.le_refl x42.1),blt_t (Nat.lt_succ_self x42.1),cond_true,cond_false,e]
                                                                                                     exact (hS x2.1 x42.1).symm) (fun q _ he=>fill_step2 (F:=ST (x2.1+1)) (z:=ST x2.1) he),by first|exact ObEnt.refl _|exact ObEnt.junk|exact ObEnt.zero|exact ObEnt.push rfl rfl|exact ObEnt.pushRow rfl|exact ObEnt.len (by omega)|exact ObEnt.row (by repeat' (first|exact trivial|(first|exact Ent.refl _|exact inc_ent (by omega)|exact Ent.nil rfl|exact Ent.of_eq (congrArg (AV.osl _ _ _) (by first|omega|(dsimp only;omega)))|exact Ent.of_eq (congrArg (AV.int _) (by first|omega|(dsimp only;omega))))|refine And.intro ?_ ?_)),trivial⟩)) (by first|omega|(dsimp only;omega)|(simp;omega))
   ·have g43:=cnd_dec_f h43
    exact k_again (⟨x2.1+1,by omega⟩) (fun _ hs=>hs.le (⟨by first|exact Ent.refl _|exact inc_ent (by omega)|exact Ent.nil rfl|exact Ent.of_eq (congrArg (AV.osl _ _ _) (by first|omega|(dsimp only;omega)))|exact Ent.of_eq (congrArg (AV.int _) (by first|omega|(dsimp only;omega))),by first|exact Ent.refl _|exact inc_ent (by omega)|exact Ent.nil rfl|exact Ent.of_eq (congrArg (AV.osl _ _ _) (by first|omega|(dsimp only;omega)))|exact Ent.of_eq (congrArg (AV.int _) (by first|omega|(dsimp only;omega))),by first|exact Ent.refl _|exact inc_ent (by omega)|exact Ent.nil rfl|exact Ent.of_eq (congrArg (AV.osl _ _ _) (by first|omega|(dsimp only;omega)))|exact Ent.of_eq (congrArg (AV.int _) (by first|omega|(dsimp only;omega))),by first|exact Ent.refl _|exact inc_ent (by omega)|exact Ent.nil rfl|exact Ent.of_eq (congrArg (AV.osl _ _ _) (by first|omega|(dsimp only;omega)))|exact Ent.of_eq (congrArg (AV.int _) (by first|omega|(dsimp only;omega))),Ent.of_eq (congrArg _ (w64 hn (by omega))),trivial⟩) (⟨by first|exact ObEnt.refl _|exact ObEnt.junk|exact ObEnt.zero|exact ObEnt.push rfl rfl|exact ObEnt.pushRow rfl|exact ObEnt.len (by omega)|exact ObEnt.row (by repeat' (first|exact trivial|(first|exact Ent.refl _|exact inc_ent (by omega)|exact Ent.nil rfl|exact Ent.of_eq (congrArg (AV.osl _ _ _) (by first|omega|(dsimp only;omega)))|exact Ent.of_eq (congrArg (AV.int _) (by first|omega|(dsimp only;omega))))|refine And.intro ?_ ?_)),ObEnt.fnF rfl (fun q hq=>by rw [blt_t (by omega)];rfl),trivial⟩)) (by first|omega|(dsimp only;omega)|(simp;omega))
 ·have g3:=cnd_dec_f h3
  refine k_loop (fun _ hs=>hs.le (by repeat' (first|exact trivial|(first|exact Ent.refl _|exact inc_ent (by omega)|exact Ent.nil rfl|exact Ent.of_eq (congrArg (AV.osl _ _ _) (by first|omega|(dsimp only;omega)))|exact Ent.of_eq (congrArg (AV.int _) (by first|omega|(dsimp only;omega))))|refine And.intro ?_ ?_)) (⟨by first|exact ObEnt.refl _|exact ObEnt.junk|exact ObEnt.zero|exact ObEnt.push rfl rfl|exact ObEnt.pushRow rfl|exact ObEnt.len (by omega)|exact ObEnt.row (by repeat' (first|exact trivial|(first|exact Ent.refl _|exact inc_ent (by omega)|exact Ent.nil rfl|exact Ent.of_eq (congrArg (AV.osl _ _ _) (by first|omega|(dsimp only;omega)))|exact Ent.of_eq (congrArg (AV.int _) (by first|omega|(dsimp only;omega))))|refine And.intro ?_ ?_)),ObEnt.fnF rfl (fun q _=>by
                                                                                                     have e:x2.1=padLen n / 64:=by omega
                                                                                                     rw [e]),zero_ob32 (fun j=>rfl),trivial⟩)) (fun x49=>?_)
  refine k_br (fun h50=>?_) (fun h50=>?_)
  ·have g50:=cnd_dec_t h50
   refine k_req (by rw [(q4 (by omega)).1];omega) ?_
   refine k_req (by rw [(q4 (by omega)).2];omega) ?_
   refine k_req (by first|omega|(simp only [Int.toNat_natCast];omega)) ?_
   exact k_again (⟨x49.1+1,by omega⟩) (fun _ hs=>hs.le (by repeat' (first|exact trivial|(first|exact Ent.refl _|exact inc_ent (by omega)|exact Ent.nil rfl|exact Ent.of_eq (congrArg (AV.osl _ _ _) (by first|omega|(dsimp only;omega)))|exact Ent.of_eq (congrArg (AV.int _) (by first|omega|(dsimp only;omega))))|refine And.intro ?_ ?_)) (⟨by first|exact ObEnt.refl _|exact ObEnt.junk|exact ObEnt.zero|exact ObEnt.push rfl rfl|exact ObEnt.pushRow rfl|exact ObEnt.len (by omega)|exact ObEnt.row (by repeat' (first|exact trivial|(first|exact Ent.refl _|exact inc_ent (by omega)|exact Ent.nil rfl|exact Ent.of_eq (congrArg (AV.osl _ _ _) (by first|omega|(dsimp only;omega)))|exact Ent.of_eq (congrArg (AV.int _) (by first|omega|(dsimp only;omega))))|refine And.intro ?_ ?_)),by first|exact ObEnt.refl _|exact ObEnt.junk|exact ObEnt.zero|exact ObEnt.push rfl rfl|exact ObEnt.pushRow rfl|exact ObEnt.len (by omega)|exact ObEnt.row (by repeat' (first|exact trivial|(first|exact Ent.refl _|exact inc_ent (by omega)|exact Ent.nil rfl|exact Ent.of_eq (congrArg (AV.osl _ _ _) (by first|omega|(dsimp only;omega)))|exact Ent.of_eq (congrArg (AV.int _) (by first|omega|(dsimp only;omega))))|refine And.intro ?_ ?_)),ObEnt.setR (P:=fun i j=>Nat.beq i 0&&Nat.beq j (0+Int.toNat ((x49.1:Nat):Int))) (c0:=x49.1) (G:=fun j=>bif Nat.blt j (x49.1+1) then outF (ST (padLen n / 64)) j else 0) (fun j _=>by show (true&&Nat.beq j (0+x49.1))=_;rw [Nat.zero_add];rfl) (by rw [blt_t (Nat.lt_succ_self _)];exact out_v (by omega)) (fun j _ he=>fill_step he),trivial⟩)) (by first|omega|(dsimp only;omega)|(simp;omega))
  ·have g50:=cnd_dec_f h50
   exact k_out (Ent.of_eq (by
                                                                                                     show AV.agg ((List.range 32).map fun j=>.int .u8 (bif Nat.blt j x49.1 then outF (ST (padLen n / 64)) j else 0))=AV.agg ((List.range 32).map fun j=>.int .u8 (outF (ST (padLen n / 64)) j))
                                                                                                     exact congrArg AV.agg (List.map_congr_left fun j hj=>by rw [blt_t (by have:=List.mem_range.1 hj;omega)];rfl)))
theorem rsum_c (f:Nat→Int) (n:Nat) (hn:n≤1099511627776) (hf:byB f n):Pure Tryz.prog gl0 145 [bys n f] (.agg (u8c (shaF n f))) :=
 rsum_r f n hn hf (fun k=>wordF (fun i=>padF n f (64*k+i))) (stateF (padF n f)) (fun k=>roundF (stateF (padF n f) k) (wordF (fun i=>padF n f (64*k+i)))) rfl (fun _ _ i h=>word_congr h i) (fun _=>rnd _ _) (fun _ _=>rfl)

def ow2 : FuncId → Option (List Bool) := fun f => bif Nat.beq f 141 || Nat.beq f 146 then some [false] else none

theorem join_g (f g : Nat → Int) (n : Nat) (hn : n ≤ 1099511627776) : Gives Tryz.prog gl0 146 [] [bys n f, .agg (u8c g)] (.osl 0 1 0 (n + 32)) [some ⟨1, n + 32, true, .fn fun i _ => .int .u8 (bif Nat.blt i n then f i else g (i - n))⟩] := by
  refine gives_sk (own := ow0) (hand := true) Tryz.func146 (by kernel_rfl) mixed (by kernel_rfl)
    (.req ((0 + n) * 1 ≤ 140737488355328) (.loop ({ x : Nat // x ≤ (32 : Nat) }) (fun (x : { x : Nat // x ≤ (32 : Nat) }) => mkSt [3, 5, 6] [AV.own (0) (32) (0) (0) (32), AV.osl (1 : Nat) (1 : Nat) (0 : Nat) (n + x.1), Zi (↑(x.1) : Int)] [some { es := 32, n := 1, mu := true, f := Rep.lst [u8c g] }, some { es := (1 : Nat), n := n + x.1, mu := true, f := Rep.fn fun (i x : Nat) => Zb (bif Nat.blt i n then f i else g (i - n)) }]) (fun (x : { x : Nat // x ≤ (32 : Nat) }) => (32 : Nat) - x.1) (⟨(0 : Nat), Nat.zero_le (32 : Nat)⟩) ([3, 5, 6]) ([0, 32]) ([AV.own (0) (32) (0) (0) (32), AV.osl (1) (1) (0) (0 + n), Zi 0]) ([some { es := 32, n := 1, mu := true, f := Rep.lst [u8c g] }, some { es := 1, n := 0 + n, mu := true, f := Rep.fn fun (i j : Nat) => Zb (f i) }]) (fun x1 => (.br (decide ((↑x1.1 : Int) < (32 : Int))) (.req ((0 : Int) ≤ (↑x1.1 : Int) ∧ (↑x1.1 : Int) < (↑(32) : Int)) (.req ((n + x1.1 + 1) * 1 ≤ 140737488355328) (.again (Again (0) (fun (x : { x : Nat // x ≤ (32 : Nat) }) => mkSt [3, 5, 6] [AV.own (0) (32) (0) (0) (32), AV.osl (1 : Nat) (1 : Nat) (0 : Nat) (n + x.1), Zi (↑(x.1) : Int)] [some { es := 32, n := 1, mu := true, f := Rep.lst [u8c g] }, some { es := (1 : Nat), n := n + x.1, mu := true, f := Rep.fn fun (i x : Nat) => Zb (bif Nat.blt i n then f i else g (i - n)) }]) (fun (x : { x : Nat // x ≤ (32 : Nat) }) => (32 : Nat) - x.1) x1) ([3, 5, 6]) ([0, 58]) ([AV.own (0) (32) (0) (0) (32), AV.osl (1) (1) (0) (n + x1.1 + 1), Zi (IntKind.wrap IntKind.i64 ((↑x1.1 : Int) + (1 : Int)))]) ([some { es := 32, n := 1, mu := true, f := Rep.lst [u8c g] }, some { es := 1, n := n + x1.1 + 1, mu := true, f := Rep.fn fun (i j : Nat) => Zb (bif Nat.blt i (n + x1.1) then bif Nat.blt i n then f i else g (i - n) else intOfAV (atL [Zb (intOfAV (Rep.at (Ob.f (Ob.seen { es := 32, n := 1, mu := true, f := Rep.lst [u8c g] })) (0) (0 + Int.toNat (↑(x1.1) : Int))))] j)) }])))) (.out (AV.osl (0) (1) (0) (n + x1.1)) ([some { es := 1, n := n + x1.1, mu := true, f := Rep.fn fun (i j : Nat) => Zb (bif Nat.blt i n then f i else g (i - n)) }]) (AV.osl (0 : Nat) (1 : Nat) (0 : Nat) (n + (32 : Nat))) ([some { es := (1 : Nat), n := n + (32 : Nat), mu := true, f := Rep.fn fun (i x : Nat) => Zb (bif Nat.blt i n then f i else g (i - n)) }]))))))
    (by kernel_rfl) ?_
  refine k_req (by first | omega | (simp only [Int.toNat_natCast]; omega)) ?_
  refine k_loop (fun _ hs => hs.le (⟨by first | exact Ent.refl _ | exact inc_ent (by omega) | exact Ent.nil rfl | exact Ent.of_eq (congrArg (AV.osl _ _ _) (by first | omega | (dsimp only; omega))) | exact Ent.of_eq (congrArg (AV.int _) (by first | omega | (dsimp only; omega))), Ent.of_eq (congrArg (AV.osl 1 1 0) (by dsimp only; omega)), by first | exact Ent.refl _ | exact inc_ent (by omega) | exact Ent.nil rfl | exact Ent.of_eq (congrArg (AV.osl _ _ _) (by first | omega | (dsimp only; omega))) | exact Ent.of_eq (congrArg (AV.int _) (by first | omega | (dsimp only; omega))), trivial⟩) (⟨by first | exact ObEnt.refl _ | exact ObEnt.junk | exact ObEnt.zero | exact ObEnt.push rfl rfl | exact ObEnt.pushRow rfl | exact ObEnt.len (by omega) | exact ObEnt.row (by repeat' (first | exact trivial | (first | exact Ent.refl _ | exact inc_ent (by omega) | exact Ent.nil rfl | exact Ent.of_eq (congrArg (AV.osl _ _ _) (by first | omega | (dsimp only; omega))) | exact Ent.of_eq (congrArg (AV.int _) (by first | omega | (dsimp only; omega)))) | refine And.intro ?_ ?_)), join_ob, trivial⟩)) (fun x1 => ?_)
  try (have q1 := x1.2; dsimp only at q1)
  refine k_br (fun h2 => ?_) (fun h2 => ?_)
  · have g2 := cnd_dec_t h2
    refine k_req (by first | omega | (simp only [Int.toNat_natCast]; omega)) ?_
    refine k_req (by first | omega | (simp only [Int.toNat_natCast]; omega)) ?_
    exact k_again (⟨x1.1 + 1, by omega⟩) (fun _ hs => hs.le (⟨by first | exact Ent.refl _ | exact inc_ent (by omega) | exact Ent.nil rfl | exact Ent.of_eq (congrArg (AV.osl _ _ _) (by first | omega | (dsimp only; omega))) | exact Ent.of_eq (congrArg (AV.int _) (by first | omega | (dsimp only; omega))), Ent.of_eq (congrArg (AV.osl 1 1 0) (by dsimp only; omega)), by first | exact Ent.refl _ | exact inc_ent (by omega) | exact Ent.nil rfl | exact Ent.of_eq (congrArg (AV.osl _ _ _) (by first | omega | (dsimp only; omega))) | exact Ent.of_eq (congrArg (AV.int _) (by first | omega | (dsimp only; omega))), trivial⟩) (⟨by first | exact ObEnt.refl _ | exact ObEnt.junk | exact ObEnt.zero | exact ObEnt.push rfl rfl | exact ObEnt.pushRow rfl | exact ObEnt.len (by omega) | exact ObEnt.row (by repeat' (first | exact trivial | (first | exact Ent.refl _ | exact inc_ent (by omega) | exact Ent.nil rfl | exact Ent.of_eq (congrArg (AV.osl _ _ _) (by first | omega | (dsimp only; omega))) | exact Ent.of_eq (congrArg (AV.int _) (by first | omega | (dsimp only; omega)))) | refine And.intro ?_ ?_)), ObEnt.pushF (F := fun i => bif Nat.blt i n then f i else g (i - n)) (by dsimp only; omega) (by show intOfAV (atL (u8c g) (0 + x1.1)) = bif Nat.blt (n + x1.1) n then f (n + x1.1) else g (n + x1.1 - n); rw [Nat.zero_add, blt_f (by omega), u8c_at (by omega)]; show g _ = g _; congr 1; omega), trivial⟩)) (by first | omega | (dsimp only; omega) | (simp; omega))
  · have g2 := cnd_dec_f h2
    exact k_outg (Ent.of_eq (congrArg (AV.osl 0 1 0) (by omega))) (⟨⟨rfl, by simp only; omega, rfl, fun i j _ _ => Ent.refl _⟩, trivial⟩)

theorem join_gn (g : Nat → Int) : Gives Tryz.prog gl0 146 [] [.nsl, .agg (u8c g)] (.osl 0 1 0 32) [some ⟨1, 32, true, .fn fun i _ => .int .u8 (g i)⟩] :=
  (join_g (fun _ => 0) g 0 (by omega)).via ⟨Ent.nsl, Ent.refl _, trivial⟩

theorem rtagged_c (s : ByteArray) (hs : s.size ≤ 100) (f : Nat → Int) (n : Nat) (hn : n ≤ 1099511627000) (hf : byB f n) : Pure Tryz.prog gl0 97 [.str s, bys n f] (.agg (u8c (tagF s n f))) := by
  refine pure_sk (own := ow2) Tryz.func97 (by kernel_rfl) mixed (by kernel_rfl)
    (.sc (true) 145 ([AV.isl (1) (ByteArray.size s) fun (i x : Nat) => Zb (↑(UInt8.toNat (List.getD (Array.toList (ByteArray.data s)) i (0 : UInt8))) : Int)]) (AV.agg (u8c (shaF (ByteArray.size s) fun (i : Nat) => (↑(UInt8.toNat (List.getD (Array.toList (ByteArray.data s)) i (0 : UInt8))) : Int)))) (.gc 146 ([]) ([AV.nsl, AV.agg (u8c (shaF (ByteArray.size s) fun (i : Nat) => (↑(UInt8.toNat (List.getD (Array.toList (ByteArray.data s)) i (0 : UInt8))) : Int)))]) (AV.osl (0 : Nat) (1 : Nat) (0 : Nat) (32 : Nat)) ([some { es := (1 : Nat), n := (32 : Nat), mu := true, f := Rep.fn fun (i x : Nat) => Zb (shaF (ByteArray.size s) (fun (i : Nat) => (↑(UInt8.toNat (List.getD (Array.toList (ByteArray.data s)) i (0 : UInt8))) : Int)) i) }]) (.gc 146 ([]) ([AV.isl (1) (32) fun (r k : Nat) => Zb (shaF (ByteArray.size s) (fun (i : Nat) => (↑(UInt8.toNat (List.getD (Array.toList (ByteArray.data s)) i (0 : UInt8))) : Int)) (r + 0)), AV.agg (u8c (shaF (ByteArray.size s) fun (i : Nat) => (↑(UInt8.toNat (List.getD (Array.toList (ByteArray.data s)) i (0 : UInt8))) : Int)))]) (AV.osl (0 : Nat) (1 : Nat) (0 : Nat) (32 + (32 : Nat))) ([some { es := (1 : Nat), n := 32 + (32 : Nat), mu := true, f := Rep.fn fun (i x : Nat) => Zb (bif Nat.blt i (32) then shaF (ByteArray.size s) (fun (i : Nat) => (↑(UInt8.toNat (List.getD (Array.toList (ByteArray.data s)) i (0 : UInt8))) : Int)) (i + 0) else shaF (ByteArray.size s) (fun (i : Nat) => (↑(UInt8.toNat (List.getD (Array.toList (ByteArray.data s)) i (0 : UInt8))) : Int)) (i - 32)) }]) (.req ((64 + n) * 1 ≤ 140737488355328) (.sc (true) 145 ([AV.isl (1) (64 + n) fun (r k : Nat) => Zb (bif Nat.blt (r + 0) (64) then bif Nat.blt (r + 0) (32) then shaF (ByteArray.size s) (fun (i : Nat) => (↑(UInt8.toNat (List.getD (Array.toList (ByteArray.data s)) i (0 : UInt8))) : Int)) (r + 0 + 0) else shaF (ByteArray.size s) (fun (i : Nat) => (↑(UInt8.toNat (List.getD (Array.toList (ByteArray.data s)) i (0 : UInt8))) : Int)) (r + 0 - 32) else f (r + 0 - 64))]) (AV.agg (u8c (shaF (64 + n) fun (i : Nat) => bif Nat.blt (i + 0) (64) then bif Nat.blt (i + 0) (32) then shaF (ByteArray.size s) (fun (i : Nat) => (↑(UInt8.toNat (List.getD (Array.toList (ByteArray.data s)) i (0 : UInt8))) : Int)) (i + 0 + 0) else shaF (ByteArray.size s) (fun (i : Nat) => (↑(UInt8.toNat (List.getD (Array.toList (ByteArray.data s)) i (0 : UInt8))) : Int)) (i + 0 - 32) else f (i + 0 - 64)))) (.out (AV.agg (u8c (shaF (64 + n) fun (i : Nat) => bif Nat.blt (i + 0) (64) then bif Nat.blt (i + 0) (32) then shaF (ByteArray.size s) (fun (i : Nat) => (↑(UInt8.toNat (List.getD (Array.toList (ByteArray.data s)) i (0 : UInt8))) : Int)) (i + 0 + 0) else shaF (ByteArray.size s) (fun (i : Nat) => (↑(UInt8.toNat (List.getD (Array.toList (ByteArray.data s)) i (0 : UInt8))) : Int)) (i + 0 - 32) else f (i + 0 - 64)))) [] (AV.agg (u8c (tagF s n f))) []))))))
    (by kernel_rfl) ?_
  refine k_sc (rsum_c (fun (i : Nat) => (↑(UInt8.toNat (List.getD (Array.toList (ByteArray.data s)) i (0 : UInt8))) : Int)) (ByteArray.size s) (by first | omega | exact strBy s _ | exact tag_by s n f hf) (by first | omega | exact strBy s _ | exact tag_by s n f hf)) ?_
  refine k_gc (join_gn (shaF (ByteArray.size s) fun (i : Nat) => (↑(UInt8.toNat (List.getD (Array.toList (ByteArray.data s)) i (0 : UInt8))) : Int))) ?_
  refine k_gc (join_g (fun (i : Nat) => shaF (ByteArray.size s) (fun (i : Nat) => (↑(UInt8.toNat (List.getD (Array.toList (ByteArray.data s)) i (0 : UInt8))) : Int)) (i + 0)) (shaF (ByteArray.size s) fun (i : Nat) => (↑(UInt8.toNat (List.getD (Array.toList (ByteArray.data s)) i (0 : UInt8))) : Int)) (32) (by first | omega | exact strBy s _ | exact tag_by s n f hf)) ?_
  refine k_req (by first | omega | (simp only [Int.toNat_natCast]; omega)) ?_
  refine k_sc (rsum_c (fun (i : Nat) => bif Nat.blt (i + 0) (64) then bif Nat.blt (i + 0) (32) then shaF (ByteArray.size s) (fun (i : Nat) => (↑(UInt8.toNat (List.getD (Array.toList (ByteArray.data s)) i (0 : UInt8))) : Int)) (i + 0 + 0) else shaF (ByteArray.size s) (fun (i : Nat) => (↑(UInt8.toNat (List.getD (Array.toList (ByteArray.data s)) i (0 : UInt8))) : Int)) (i + 0 - 32) else f (i + 0 - 64)) (64 + n) (by first | omega | exact strBy s _ | exact tag_by s n f hf) (by first | omega | exact strBy s _ | exact tag_by s n f hf)) ?_
  exact k_out (Ent.refl _)





theorem tagged_c (s : ByteArray) (hs : s.size ≤ 100) (h1 : 1 ≤ s.size) (f : Nat → Int) (n : Nat) (hn : n ≤ 1099511627000) (hf : byB f n) : Pure Tryz.prog gl0 90 [.str s, bys n f] (.tup [.agg (u8c (tagF s n f)), .int .i64 0]) := by
  refine pure_sk (own := ow2) Tryz.func90 (by kernel_rfl) mixed (by kernel_rfl)
    (.br (decide ((↑(ByteArray.size s) : Int) < (1 : Int)) || decide ((↑(ByteArray.size s) : Int) > (100 : Int))) (.out (AV.tup [AV.agg [Zb 0, Zb 0, Zb 0, Zb 0, Zb 0, Zb 0, Zb 0, Zb 0, Zb 0, Zb 0, Zb 0, Zb 0, Zb 0, Zb 0, Zb 0, Zb 0, Zb 0, Zb 0, Zb 0, Zb 0, Zb 0, Zb 0, Zb 0, Zb 0, Zb 0, Zb 0, Zb 0, Zb 0, Zb 0, Zb 0, Zb 0, Zb 0], Zi 2]) [] (AV.tup [AV.agg (u8c (tagF s n f)), Zi 0]) []) (.sc (true) 140 ([AV.isl (1) (ByteArray.size s) fun (i x : Nat) => Zb (↑(UInt8.toNat (List.getD (Array.toList (ByteArray.data s)) i (0 : UInt8))) : Int)]) (AV.agg (u8c (shaF (ByteArray.size s) fun (i : Nat) => (↑(UInt8.toNat (List.getD (Array.toList (ByteArray.data s)) i (0 : UInt8))) : Int)))) (.gc 141 ([]) ([AV.isl (1) (32) fun (r x : Nat) => Zb (intOfAV (atL (u8c (shaF (ByteArray.size s) fun (i : Nat) => (↑(UInt8.toNat (List.getD (Array.toList (ByteArray.data s)) i (0 : UInt8))) : Int))) (0 + (0 + r))))]) (AV.osl (0 : Nat) (1 : Nat) (0 : Nat) (32)) ([some { es := (1 : Nat), n := 32, mu := true, f := Rep.fn fun (i x : Nat) => Zb (intOfAV (atL (u8c (shaF (ByteArray.size s) fun (i : Nat) => (↑(UInt8.toNat (List.getD (Array.toList (ByteArray.data s)) i (0 : UInt8))) : Int))) (0 + (0 + i)))) }]) (.req (64 ≤ 140737488355328) (.req ((64 + n) * 1 ≤ 140737488355328) (.sc (true) 140 ([AV.isl (1) (64 + n) fun (r k : Nat) => Zb (bif Nat.blt (r + 0) (64) then bif Nat.blt (r + 0) (32) then intOfAV (atL (u8c (shaF (ByteArray.size s) fun (i : Nat) => (↑(UInt8.toNat (List.getD (Array.toList (ByteArray.data s)) i (0 : UInt8))) : Int))) (0 + (0 + (r + 0)))) else intOfAV (atL (u8c (shaF (ByteArray.size s) fun (i : Nat) => (↑(UInt8.toNat (List.getD (Array.toList (ByteArray.data s)) i (0 : UInt8))) : Int))) (0 + (0 + (r + 0 - 32)))) else f (r + 0 - 64))]) (AV.agg (u8c (shaF (64 + n) fun (i : Nat) => bif Nat.blt (i + 0) (64) then bif Nat.blt (i + 0) (32) then intOfAV (atL (u8c (shaF (ByteArray.size s) fun (i : Nat) => (↑(UInt8.toNat (List.getD (Array.toList (ByteArray.data s)) i (0 : UInt8))) : Int))) (0 + (0 + (i + 0)))) else intOfAV (atL (u8c (shaF (ByteArray.size s) fun (i : Nat) => (↑(UInt8.toNat (List.getD (Array.toList (ByteArray.data s)) i (0 : UInt8))) : Int))) (0 + (0 + (i + 0 - 32)))) else f (i + 0 - 64)))) (.out (AV.tup [AV.agg (u8c (shaF (64 + n) fun (i : Nat) => bif Nat.blt (i + 0) (64) then bif Nat.blt (i + 0) (32) then intOfAV (atL (u8c (shaF (ByteArray.size s) fun (i : Nat) => (↑(UInt8.toNat (List.getD (Array.toList (ByteArray.data s)) i (0 : UInt8))) : Int))) (0 + (0 + (i + 0)))) else intOfAV (atL (u8c (shaF (ByteArray.size s) fun (i : Nat) => (↑(UInt8.toNat (List.getD (Array.toList (ByteArray.data s)) i (0 : UInt8))) : Int))) (0 + (0 + (i + 0 - 32)))) else f (i + 0 - 64))), Zi 0]) [] (AV.tup [AV.agg (u8c (tagF s n f)), Zi 0]) [])))))))
    (by kernel_rfl) ?_
  refine k_br (fun h0 => ?_) (fun h0 => ?_)
  · have g0 := (cnd_or_t cnd_dec_t cnd_dec_t) h0
    exact k_out ((by exfalso; omega))
  · have g0 := (cnd_or_f cnd_dec_f cnd_dec_f) h0
    refine k_sc (sum_c (fun (i : Nat) => (↑(UInt8.toNat (List.getD (Array.toList (ByteArray.data s)) i (0 : UInt8))) : Int)) (ByteArray.size s) (by first | omega | exact strBy s _ | exact by_congr (fun i => tag_at i) (tag_by s n f hf)) (by first | omega | exact strBy s _ | exact by_congr (fun i => tag_at i) (tag_by s n f hf))) ?_
    refine k_gc (cloneB2_c (fun (i : Nat) => intOfAV (atL (u8c (shaF (ByteArray.size s) fun (i : Nat) => (↑(UInt8.toNat (List.getD (Array.toList (ByteArray.data s)) i (0 : UInt8))) : Int))) (0 + (0 + i)))) (32) (by first | omega | exact strBy s _ | exact by_congr (fun i => tag_at i) (tag_by s n f hf))) ?_
    refine k_req (by first | omega | (simp only [Int.toNat_natCast]; omega)) ?_
    refine k_req (by first | omega | (simp only [Int.toNat_natCast]; omega)) ?_
    refine k_sc (sum_c (fun (i : Nat) => bif Nat.blt (i + 0) (64) then bif Nat.blt (i + 0) (32) then intOfAV (atL (u8c (shaF (ByteArray.size s) fun (i : Nat) => (↑(UInt8.toNat (List.getD (Array.toList (ByteArray.data s)) i (0 : UInt8))) : Int))) (0 + (0 + (i + 0)))) else intOfAV (atL (u8c (shaF (ByteArray.size s) fun (i : Nat) => (↑(UInt8.toNat (List.getD (Array.toList (ByteArray.data s)) i (0 : UInt8))) : Int))) (0 + (0 + (i + 0 - 32)))) else f (i + 0 - 64)) (64 + n) (by first | omega | exact strBy s _ | exact by_congr (fun i => tag_at i) (tag_by s n f hf)) (by first | omega | exact strBy s _ | exact by_congr (fun i => tag_at i) (tag_by s n f hf))) ?_
    exact k_out (Ent.of_eq (congrArg (fun t => AV.tup [.agg (u8c t), .int .i64 0]) (sha_congr fun i _ => tag_at i)))







theorem rnum7_c (n : Int) (h0 : 0 ≤ n) (hn : n < 18446744073709551616) (size : Nat) (hs : 1 ≤ size) (hs' : size ≤ 8) : Pure Tryz.prog gl0 147 [.int .u64 n, .int .i64 size] (bys size (numB n size)) := by
  refine pure_sk (own := ow0) Tryz.func147 (by kernel_rfl) mixed (by kernel_rfl)
    (.req ((0 : Int) ≤ (↑size : Int) ∧ (↑size : Int) = (↑size : Int) ∧ (↑(1) : Int) * (↑size : Int) ≤ (140737488355328 : Int) ∧ (↑size : Int) ≤ (9223372036854775807 : Int)) (.loop ({ x : Nat // x ≤ size }) (fun (x : { x : Nat // x ≤ size }) => mkSt [5, 0, 6] [AV.osl (0) (1) (0) (Int.toNat (↑size : Int)), Zu (n / (256 : Int) ^ x.1), Zi ((↑size : Int) - (1 : Int) - (↑(x.1) : Int))] [some { es := (1 : Nat), n := size, mu := true, f := Rep.fn fun (i x_1 : Nat) => Zb (numT n size (x.1) i) }]) (fun (x : { x : Nat // x ≤ size }) => size - x.1) (⟨(0 : Nat), Nat.zero_le size⟩) ([5, 0, 6]) ([16]) ([AV.osl (0) (1) (0) (Int.toNat (↑size : Int)), Zu n, Zi (IntKind.wrap IntKind.i64 ((↑size : Int) - (1 : Int)))]) ([some { es := 1, n := Int.toNat (↑size : Int), mu := true, f := Rep.fn fun (i j : Nat) => Zb (intOfAV (atL (zcells (Value.int IntKind.u8 (0 : Int))) j)) }]) (fun x1 => (.br (decide ((↑size : Int) - (1 : Int) - (↑x1.1 : Int) ≥ (0 : Int))) (.req ((0 : Int) ≤ (↑size : Int) - (1 : Int) - (↑x1.1 : Int) ∧ (↑size : Int) - (1 : Int) - (↑x1.1 : Int) < (↑(Int.toNat (↑size : Int)) : Int)) (.again (Again (0) (fun (x : { x : Nat // x ≤ size }) => mkSt [5, 0, 6] [AV.osl (0) (1) (0) (Int.toNat (↑size : Int)), Zu (n / (256 : Int) ^ x.1), Zi ((↑size : Int) - (1 : Int) - (↑(x.1) : Int))] [some { es := (1 : Nat), n := size, mu := true, f := Rep.fn fun (i x_1 : Nat) => Zb (numT n size (x.1) i) }]) (fun (x : { x : Nat // x ≤ size }) => size - x.1) x1) ([5, 0, 6]) ([0]) ([AV.osl (0) (1) (0) (Int.toNat (↑size : Int)), Zu (IntKind.wrap IntKind.u64 (Int.tdiv (n / (256 : Int) ^ x1.1) (256 : Int))), Zi (IntKind.wrap IntKind.i64 ((↑size : Int) - (1 : Int) - (↑x1.1 : Int) - (1 : Int)))]) ([some { es := 1, n := size, mu := true, f := Rep.fn fun (i j : Nat) => Zb (bif Nat.beq i (Int.toNat ((↑size : Int) - (1 : Int) - (↑x1.1 : Int)) + 0) && (Nat.ble (0) j && Nat.blt j (1)) then IntKind.wrap IntKind.u8 (Int.tmod (n / (256 : Int) ^ x1.1) (256 : Int)) else numT n size x1.1 i) }]))) (.out (AV.isl (1) (Int.toNat (↑size : Int)) fun (r k : Nat) => Zb (numT n size x1.1 (r + 0))) [] (bys size (numB n size)) [])))))
    (by kernel_rfl) ?_
  refine k_req (by first | omega | (simp only [Int.toNat_natCast]; omega)) ?_
  refine k_loop (fun _ hs => hs.le (⟨by first | exact Ent.refl _ | exact inc_ent (by omega) | exact Ent.nil rfl | exact Ent.of_eq (congrArg (AV.osl _ _ _) (by first | omega | (dsimp only; omega))) | exact Ent.of_eq (congrArg (AV.int _) (by first | omega | (dsimp only; omega))), by first | exact Ent.refl _ | exact inc_ent (by omega) | exact Ent.nil rfl | exact Ent.of_eq (congrArg (AV.osl _ _ _) (by first | omega | (dsimp only; omega))) | exact Ent.of_eq (congrArg (AV.int _) (by first | omega | (dsimp only; omega))), Ent.of_eq (congrArg _ (by rw [wI (by omega) (by omega)]; dsimp only; omega)), trivial⟩) (⟨⟨rfl, by first | rfl | simp, rfl, fun i j hi hj => Ent.of_eq (congrArg _ (num_z hi hj))⟩, trivial⟩)) (fun x1 => ?_)
  try (have q1 := x1.2; dsimp only at q1)
  refine k_br (fun h2 => ?_) (fun h2 => ?_)
  · have g2 := cnd_dec_t h2
    refine k_req (by first | omega | (simp only [Int.toNat_natCast]; omega)) ?_
    exact k_again (⟨x1.1 + 1, by omega⟩) (fun _ hs => hs.le (⟨by first | exact Ent.refl _ | exact inc_ent (by omega) | exact Ent.nil rfl | exact Ent.of_eq (congrArg (AV.osl _ _ _) (by first | omega | (dsimp only; omega))) | exact Ent.of_eq (congrArg (AV.int _) (by first | omega | (dsimp only; omega))), Ent.of_eq (congrArg _ (num_qw h0 hn _)), Ent.of_eq (congrArg _ (by rw [wI (by omega) (by omega)]; dsimp only; omega)), trivial⟩) (⟨⟨rfl, rfl, rfl, fun i j hi hj => Ent.of_eq (congrArg _ (num_s h0 (by omega) hj))⟩, trivial⟩)) (by first | omega | (dsimp only; omega) | (simp; omega))
  · have g2 := cnd_dec_f h2
    exact k_out (bys_eq (by omega) (fun i _ => num_full (by omega)))

theorem renc_int (n:Int):Pure Tryz.prog gl0 98 [.agg [.int .i64 1,.int .i64 n,bys 0 (fun _=>0),.isl 4 0 (fun _ _=>.junk)]] (il .u8 (It.int n).enc):=by
 have hw:=wu64_by n
 refine pure_sk (own:=ow0) Tryz.func98 (by kernel_rfl) mixed (by kernel_rfl)
  (.tt (.dc (true) 147 ([Zu (IntKind.wrap IntKind.u64 n),Zi 8]) (bys (8) (numB (IntKind.wrap IntKind.u64 n) (8))) (.req (9≤140737488355328) (.out (AV.isl (1) (9) fun (r k:Nat)=>Zb (bif Nat.blt (r+0) (1) then intOfAV (atL [Zb 1] k) else numB (IntKind.wrap IntKind.u64 n) (8) (r+0 - 1))) [] (il IntKind.u8 (It.enc (It.int n))) []))))
  (by kernel_rfl) ?_
 refine k_tt ?_
 refine k_dc (rnum7_c (IntKind.wrap IntKind.u64 n) (by first|assumption|omega) (by first|assumption|omega) (8) (by first|assumption|omega) (by first|assumption|omega)) ?_
 refine k_req (by first|omega|(simp only [Int.toNat_natCast];omega)) ?_
 exact k_out (il_eq rfl (fun i hi=>enc1 hi))
theorem renc_byt (n:Nat) (f:Nat→Int) (hn:n≤1099511627776):Pure Tryz.prog gl0 98 [.agg [.int .i64 2,.int .i64 0,bys n f,.isl 4 0 (fun _ _=>.junk)]] (il .u8 (It.byt n f).enc):=by
 have hw:=wu64_by n
 have e:IntKind.wrap .u64 (n:Int)=n:=wu64 (by omega) (by omega)
 refine pure_sk (own:=ow0) Tryz.func98 (by kernel_rfl) mixed (by kernel_rfl)
  (.ff (.tt (.dc (true) 147 ([Zu (IntKind.wrap IntKind.u64 (↑n:Int)),Zi 4]) (bys (4) (numB (IntKind.wrap IntKind.u64 (↑n:Int)) (4))) (.req (5≤140737488355328) (.req ((5+n)*1≤140737488355328) (.out (AV.isl (1) (5+n) fun (r k:Nat)=>Zb (bif Nat.blt (r+0) (5) then bif Nat.blt (r+0) (1) then intOfAV (atL [Zb 2] k) else numB (IntKind.wrap IntKind.u64 (↑n:Int)) (4) (r+0 - 1) else f (r+0 - 5))) [] (il IntKind.u8 (It.enc (It.byt n f))) []))))))
  (by kernel_rfl) ?_
 refine k_ff ?_
 refine k_tt ?_
 refine k_dc (rnum7_c (IntKind.wrap IntKind.u64 (↑n:Int)) (by first|assumption|omega) (by first|assumption|omega) (4) (by first|assumption|omega) (by first|assumption|omega)) ?_
 refine k_req (by first|omega|(simp only [Int.toNat_natCast];omega)) ?_
 refine k_req (by first|omega|(simp only [Int.toNat_natCast];omega)) ?_
 exact k_out (il_eq (byt_len n f).symm (fun i hi=>by
                                                                                                     rw [e]
                                                                                                     exact enc2 hi))
theorem renc_lw (n:Nat) (c:Nat→It) (E A:Nat→List Int) (hn:n≤1099511627776) (h0:A 0=3::nbL n 4) (hE:∀ k,A (k+1)=A k++E k) (hA:∀ k,k≤n→(A k).length≤1099511627776)
  (hc:∀ i,i<n→Pure Tryz.prog gl0 98 [(c i).av] (il .u8 (E i))):Pure Tryz.prog gl0 98 [.agg [.int .i64 3,.int .i64 0,bys 0 (fun _=>0),It.sl n c]] (il .u8 (A n)):=by
 have hw:=wu64_by n
 have e:IntKind.wrap .u64 (n:Int)=n:=wu64 (by omega) (by omega)
 have l0:(A 0).length=5:=by rw [h0];simp [nbL_len]
 have ls:∀ k,(A (k+1)).length=(A k).length+(E k).length:=fun k=>by rw [hE,List.length_append]
 refine pure_sk (own:=ow0) Tryz.func98 (by kernel_rfl) mixed (by kernel_rfl)
  (.ff (.ff (.dc (true) 147 ([Zu (IntKind.wrap IntKind.u64 (↑n:Int)),Zi 4]) (bys (4) (numB (IntKind.wrap IntKind.u64 (↑n:Int)) (4))) (.req (5≤140737488355328) (.loop ({ x:Nat // x≤n }) (fun (x:{ x:Nat // x≤n })=>mkSt [1,3,4] [AV.own (0) (4) (0) (0) (4),AV.osl (1:Nat) (1:Nat) (0:Nat) (List.length (A (x.1))),Zi (↑(x.1):Int)] [some { es:=4,n:=1,mu:=true,f:=Rep.lst [[Zi 3,Zi 0,AV.isl (1) (0) fun (i x:Nat)=>Zb 0,AV.isl (4) n fun (i j:Nat)=>atL (It.cells (c i)) j]] },ilO IntKind.u8 (A (x.1))]) (fun (x:{ x:Nat // x≤n })=>n - x.1) (⟨(0:Nat),Nat.zero_le n⟩) ([1,3,4]) ([0,112]) ([AV.own (0) (4) (0) (0) (4),AV.osl (1) (1) (0) (5),Zi 0]) ([some { es:=4,n:=1,mu:=true,f:=Rep.lst [[Zi 3,Zi 0,AV.isl (1) (0) fun (i x:Nat)=>Zb 0,AV.isl (4) n fun (i j:Nat)=>atL (It.cells (c i)) j]] },some { es:=1,n:=5,mu:=true,f:=Rep.fn fun (i j:Nat)=>Zb (bif Nat.blt i (1) then intOfAV (atL [Zb 3] j) else numB (IntKind.wrap IntKind.u64 (↑n:Int)) (4) (i - 1)) }]) (fun x4=>(.br (decide ((↑x4.1:Int)<(↑n:Int))) (.req ((0:Int)≤(↑x4.1:Int)∧(↑x4.1:Int)<(↑n:Int)) (.dc (true) 98 ([AV.agg [Zi (It.kind (c (Int.toNat (↑x4.1:Int)))),Zi (It.num (c (Int.toNat (↑x4.1:Int)))),AV.isl (1) (It.nb (c (Int.toNat (↑x4.1:Int)))) fun (i x:Nat)=>Zb (It.fb (c (Int.toNat (↑x4.1:Int))) i),AV.isl (4) (It.nl (c (Int.toNat (↑x4.1:Int)))) (It.row (c (Int.toNat (↑x4.1:Int))))]]) (il IntKind.u8 (E (Int.toNat (↑x4.1:Int)))) (.req ((List.length (A (x4.1))+List.length (E (Int.toNat (↑x4.1:Int))))*1≤140737488355328) (.again (Again (0) (fun (x:{ x:Nat // x≤n })=>mkSt [1,3,4] [AV.own (0) (4) (0) (0) (4),AV.osl (1:Nat) (1:Nat) (0:Nat) (List.length (A (x.1))),Zi (↑(x.1):Int)] [some { es:=4,n:=1,mu:=true,f:=Rep.lst [[Zi 3,Zi 0,AV.isl (1) (0) fun (i x:Nat)=>Zb 0,AV.isl (4) n fun (i j:Nat)=>atL (It.cells (c i)) j]] },ilO IntKind.u8 (A (x.1))]) (fun (x:{ x:Nat // x≤n })=>n - x.1) x4) ([1,3,4]) ([0,98]) ([AV.own (0) (4) (0) (0) (4),AV.osl (1) (1) (0) (List.length (A (x4.1))+List.length (E (Int.toNat (↑x4.1:Int)))),Zi (IntKind.wrap IntKind.i64 ((↑x4.1:Int)+(1:Int)))]) ([some { es:=4,n:=1,mu:=true,f:=Rep.lst [[Zi 3,Zi 0,AV.isl (1) (0) fun (i x:Nat)=>Zb 0,AV.isl (4) n fun (i j:Nat)=>atL (It.cells (c i)) j]] },some { es:=1,n:=List.length (A (x4.1))+List.length (E (Int.toNat (↑x4.1:Int))),mu:=true,f:=Rep.fn fun (i j:Nat)=>Zb (bif Nat.blt i (List.length (A (x4.1))) then List.getD (A (x4.1)) i (0:Int) else List.getD (E (Int.toNat (↑x4.1:Int))) (i - List.length (A (x4.1))) (0:Int)) }]))))) (.out (AV.isl (1) (List.length (A (x4.1))) fun (r k:Nat)=>Zb (List.getD (A (x4.1)) (r+0) (0:Int))) [] (il IntKind.u8 (A n)) []))))))))
  (by kernel_rfl) ?_
 refine k_ff ?_
 refine k_ff ?_
 refine k_dc (rnum7_c (IntKind.wrap IntKind.u64 (↑n:Int)) (by first|assumption|omega) (by first|assumption|omega) (4) (by first|assumption|omega) (by first|assumption|omega)) ?_
 refine k_req (by first|omega|(simp only [Int.toNat_natCast];omega)) ?_
 refine k_loop (fun _ hs=>hs.le (by repeat' (first|exact trivial|(first|exact Ent.refl _|exact inc_ent (by omega)|exact Ent.nil rfl|exact Ent.of_eq (congrArg (AV.osl _ _ _) (by first|omega|(dsimp only;omega)))|exact Ent.of_eq (congrArg (AV.int _) (by first|omega|(dsimp only;omega))))|refine And.intro ?_ ?_)) (⟨by first|exact ObEnt.refl _|exact ObEnt.junk|exact ObEnt.zero|exact ObEnt.push rfl rfl|exact ObEnt.pushRow rfl|exact ObEnt.len (by omega)|exact ObEnt.row (by repeat' (first|exact trivial|(first|exact Ent.refl _|exact inc_ent (by omega)|exact Ent.nil rfl|exact Ent.of_eq (congrArg (AV.osl _ _ _) (by first|omega|(dsimp only;omega)))|exact Ent.of_eq (congrArg (AV.int _) (by first|omega|(dsimp only;omega))))|refine And.intro ?_ ?_)),obl_eq l0.symm (fun i hi=>by
                                                                                                     rw [e,h0]
                                                                                                     exact enc1 hi),trivial⟩)) (fun x4=>?_)
 refine k_br (fun h5=>?_) (fun h5=>?_)
 ·have g5:=cnd_dec_t h5
  refine k_req (by first|omega|(simp only [Int.toNat_natCast];omega)) ?_
  refine k_dc (hc (Int.toNat (↑x4.1:Int)) (by first|assumption|omega)) ?_
  refine k_req (by have q1:=hA (x4.1+1) (by omega);have q2:=ls x4.1;simp only [Int.toNat_natCast];omega) ?_
  exact k_again (⟨x4.1+1,by omega⟩) (fun _ hs=>hs.le (⟨by first|exact Ent.refl _|exact inc_ent (by omega)|exact Ent.nil rfl|exact Ent.of_eq (congrArg (AV.osl _ _ _) (by first|omega|(dsimp only;omega)))|exact Ent.of_eq (congrArg (AV.int _) (by first|omega|(dsimp only;omega))),Ent.of_eq (congrArg (AV.osl 1 1 0) (ls x4.1).symm),by first|exact Ent.refl _|exact inc_ent (by omega)|exact Ent.nil rfl|exact Ent.of_eq (congrArg (AV.osl _ _ _) (by first|omega|(dsimp only;omega)))|exact Ent.of_eq (congrArg (AV.int _) (by first|omega|(dsimp only;omega))),trivial⟩) (⟨by first|exact ObEnt.refl _|exact ObEnt.junk|exact ObEnt.zero|exact ObEnt.push rfl rfl|exact ObEnt.pushRow rfl|exact ObEnt.len (by omega)|exact ObEnt.row (by repeat' (first|exact trivial|(first|exact Ent.refl _|exact inc_ent (by omega)|exact Ent.nil rfl|exact Ent.of_eq (congrArg (AV.osl _ _ _) (by first|omega|(dsimp only;omega)))|exact Ent.of_eq (congrArg (AV.int _) (by first|omega|(dsimp only;omega))))|refine And.intro ?_ ?_)),obl_app (hE x4.1) rfl,trivial⟩)) (by first|omega|(dsimp only;omega)|(simp;omega))
 ·have g5:=cnd_dec_f h5
  exact k_out (Ent.of_eq (by rw [show x4.1=n by omega];rfl))
theorem renc_c:∀ x:It,x.enc.length≤1099511627776→Pure Tryz.prog gl0 98 [x.av] (il .u8 x.enc)
 | .int n,_=>renc_int n
 | .byt n f,h=>renc_byt n f (by rw [byt_len] at h;omega)
 | .li n c,h=>renc_lw n c (fun i=>(c i).enc) (It.encP n c) (by have:=It.encP_len n c n;rw [It.enc_li] at h;omega) (It.encP_zero n c) (It.encP_succ n c) (fun k hk=>Nat.le_trans (It.encP_le n c hk) h)
   (fun i hi=>renc_c (c i) (by have:=It.enc_child (c:=c) hi;omega))
def ow3:FuncId→Option (List Bool):=fun f=>bif Nat.beq f 141||Nat.beq f 146 then some [false] else bif Nat.beq f 183 then some [true,false,false] else bif Nat.beq f 139 then some [true,false] else none
theorem number_g (n:Nat) (f:Nat→Nat→Int) (v:Int) (h0:0≤v) (hv:v<18446744073709551616) (size:Nat) (h1:1≤size) (h8:size≤8) (hl:n≤1099511627776) :
  Gives Tryz.prog gl0 183 [⟨1,n,true,.fn fun i j=>.int .u8 (f i j)⟩] [.osl 0 1 0 n,.int .u64 v,.int .i64 size] (.osl 1 1 0 (n+size)) [none,some ⟨1,n+size,true,.fn fun i j=>.int .u8 (bif Nat.blt i n then f i j else numB v size (i - n))⟩]:=by
 refine gives_sk (own:=ow0) (hand:=true) Tryz.func183 (by kernel_rfl) mixed (by kernel_rfl)
  (.loop ({ x:Nat // x≤size }) (fun (x:{ x:Nat // x≤size })=>mkSt [1,0,7] [Zu v,AV.osl (1:Nat) (1:Nat) (0:Nat) (n+x.1),Zi ((↑size:Int) - (1:Int) - (↑(x.1):Int))] [none,some { es:=(1:Nat),n:=n+x.1,mu:=true,f:=Rep.fn fun (i j:Nat)=>Zb (bif Nat.blt i n then f i j else numB v size (i - n)) }]) (fun (x:{ x:Nat // x≤size })=>size - x.1) (⟨(0:Nat),Nat.zero_le size⟩) ([1,0,7]) ([33,0]) ([Zu v,AV.osl (1) (1) (0) n,Zi (IntKind.wrap IntKind.i64 ((↑size:Int) - (1:Int)))]) ([none,some { es:=1,n:=n,mu:=true,f:=Rep.fn fun (i j:Nat)=>Zb (f i j) }]) (fun x0=>(.br (decide ((↑size:Int) - (1:Int) - (↑x0.1:Int)≥(0:Int))) (.req ((0:Int)≤IntKind.wrap IntKind.i64 ((8:Int)*((↑size:Int) - (1:Int) - (↑x0.1:Int)))) (.req ((n+x0.1+1)*1≤140737488355328) (.again (Again (1) (fun (x:{ x:Nat // x≤size })=>mkSt [1,0,7] [Zu v,AV.osl (1:Nat) (1:Nat) (0:Nat) (n+x.1),Zi ((↑size:Int) - (1:Int) - (↑(x.1):Int))] [none,some { es:=(1:Nat),n:=n+x.1,mu:=true,f:=Rep.fn fun (i j:Nat)=>Zb (bif Nat.blt i n then f i j else numB v size (i - n)) }]) (fun (x:{ x:Nat // x≤size })=>size - x.1) x0) ([1,0,7]) ([114,74]) ([Zu v,AV.osl (1) (1) (0) (n+x0.1+1),Zi (IntKind.wrap IntKind.i64 ((↑size:Int) - (1:Int) - (↑x0.1:Int) - (1:Int)))]) ([none,some { es:=1,n:=n+x0.1+1,mu:=true,f:=Rep.fn fun (i j:Nat)=>Zb (bif Nat.blt i (n+x0.1) then bif Nat.blt i n then f i j else numB v size (i - n) else intOfAV (atL [Zb (IntKind.wrap IntKind.u8 (Int.fdiv v ((2:Int)^min (Int.toNat (IntKind.wrap IntKind.i64 ((8:Int)*((↑size:Int) - (1:Int) - (↑x0.1:Int))))) (64))))] j)) }])))) (.out (AV.osl (1) (1) (0) (n+x0.1)) ([none,some { es:=1,n:=n+x0.1,mu:=true,f:=Rep.fn fun (i j:Nat)=>Zb (bif Nat.blt i n then f i j else numB v size (i - n)) }]) (AV.osl (1:Nat) (1:Nat) (0:Nat) (n+size)) ([none,some { es:=(1:Nat),n:=n+size,mu:=true,f:=Rep.fn fun (i j:Nat)=>Zb (bif Nat.blt i n then f i j else numB v size (i - n)) }])))))
  (by kernel_rfl) ?_
 refine k_loop (fun _ hs=>hs.le (⟨by first|exact Ent.refl _|exact inc_ent (by omega)|exact Ent.nil rfl|exact Ent.of_eq (congrArg (AV.osl _ _ _) (by first|omega|(dsimp only;omega)))|exact Ent.of_eq (congrArg (AV.int _) (by first|omega|(dsimp only;omega))),by first|exact Ent.refl _|exact inc_ent (by omega)|exact Ent.nil rfl|exact Ent.of_eq (congrArg (AV.osl _ _ _) (by first|omega|(dsimp only;omega)))|exact Ent.of_eq (congrArg (AV.int _) (by first|omega|(dsimp only;omega))),Ent.of_eq (congrArg _ (by rw [wI (by omega) (by omega)];dsimp only;omega)),trivial⟩) (⟨numb_ob rfl,trivial⟩)) (fun x0=>?_)
 try (have q0:=x0.2;dsimp only at q0)
 refine k_br (fun h1=>?_) (fun h1=>?_)
 ·have g1:=cnd_dec_t h1
  refine k_req (by rw [wI (by omega) (by omega)];omega) ?_
  refine k_req (by first|omega|(simp only [Int.toNat_natCast];omega)) ?_
  exact k_again (⟨x0.1+1,by omega⟩) (fun _ hs=>hs.le (⟨by first|exact Ent.refl _|exact inc_ent (by omega)|exact Ent.nil rfl|exact Ent.of_eq (congrArg (AV.osl _ _ _) (by first|omega|(dsimp only;omega)))|exact Ent.of_eq (congrArg (AV.int _) (by first|omega|(dsimp only;omega))),by first|exact Ent.refl _|exact inc_ent (by omega)|exact Ent.nil rfl|exact Ent.of_eq (congrArg (AV.osl _ _ _) (by first|omega|(dsimp only;omega)))|exact Ent.of_eq (congrArg (AV.int _) (by first|omega|(dsimp only;omega))),Ent.of_eq (congrArg _ (by rw [wI (by omega) (by omega)];dsimp only;omega)),trivial⟩) (⟨numb_obs (shr_num (by omega) h8),trivial⟩)) (by first|omega|(dsimp only;omega)|(simp;omega))
 ·have g1:=cnd_dec_f h1
  exact k_outg (Ent.of_eq (congrArg (AV.osl 1 1 0) (by omega))) (by repeat' (first|exact trivial|(first|exact ObEnt.refl _|exact ObEnt.junk|exact ObEnt.zero|exact ObEnt.push rfl rfl|exact ObEnt.pushRow rfl|exact ObEnt.len (by omega)|exact ObEnt.row (by repeat' (first|exact trivial|(first|exact Ent.refl _|exact inc_ent (by omega)|exact Ent.nil rfl|exact Ent.of_eq (congrArg (AV.osl _ _ _) (by first|omega|(dsimp only;omega)))|exact Ent.of_eq (congrArg (AV.int _) (by first|omega|(dsimp only;omega))))|refine And.intro ?_ ?_)))|refine And.intro ?_ ?_))
theorem number_h (b:Int) (v:Int) (h0:0≤v) (hv:v<18446744073709551616) (size:Nat) (h1:1≤size) (h8:size≤8) :
  Gives Tryz.prog gl0 183 [⟨1,1,true,.lst [[.int .u8 b]]⟩] [.osl 0 1 0 1,.int .u64 v,.int .i64 size] (.osl 1 1 0 (1+size)) [none,some ⟨1,1+size,true,.fn fun i _=>.int .u8 (bif Nat.blt i 1 then b else numB v size (i - 1))⟩]:=by
 refine gives_sk (own:=ow0) (hand:=true) Tryz.func183 (by kernel_rfl) mixed (by kernel_rfl)
  (.loop ({ x:Nat // x≤size }) (fun (x:{ x:Nat // x≤size })=>mkSt [1,0,7] [Zu v,AV.osl (1:Nat) (1:Nat) (0:Nat) ((1:Nat)+x.1),Zi ((↑size:Int) - (1:Int) - (↑(x.1):Int))] [none,some { es:=(1:Nat),n:=(1:Nat)+x.1,mu:=true,f:=Rep.fn fun (i x:Nat)=>Zb (bif Nat.blt i (1:Nat) then b else numB v size (i - (1:Nat))) }]) (fun (x:{ x:Nat // x≤size })=>size - x.1) (⟨(0:Nat),Nat.zero_le size⟩) ([1,0,7]) ([33,0]) ([Zu v,AV.osl (1) (1) (0) (1),Zi (IntKind.wrap IntKind.i64 ((↑size:Int) - (1:Int)))]) ([none,some { es:=1,n:=1,mu:=true,f:=Rep.lst [[Zb b]] }]) (fun x0=>(.br (decide ((↑size:Int) - (1:Int) - (↑x0.1:Int)≥(0:Int))) (.req ((0:Int)≤IntKind.wrap IntKind.i64 ((8:Int)*((↑size:Int) - (1:Int) - (↑x0.1:Int)))) (.req ((1+x0.1+1)*1≤140737488355328) (.again (Again (1) (fun (x:{ x:Nat // x≤size })=>mkSt [1,0,7] [Zu v,AV.osl (1:Nat) (1:Nat) (0:Nat) ((1:Nat)+x.1),Zi ((↑size:Int) - (1:Int) - (↑(x.1):Int))] [none,some { es:=(1:Nat),n:=(1:Nat)+x.1,mu:=true,f:=Rep.fn fun (i x:Nat)=>Zb (bif Nat.blt i (1:Nat) then b else numB v size (i - (1:Nat))) }]) (fun (x:{ x:Nat // x≤size })=>size - x.1) x0) ([1,0,7]) ([114,74]) ([Zu v,AV.osl (1) (1) (0) (1+x0.1+1),Zi (IntKind.wrap IntKind.i64 ((↑size:Int) - (1:Int) - (↑x0.1:Int) - (1:Int)))]) ([none,some { es:=1,n:=1+x0.1+1,mu:=true,f:=Rep.fn fun (i j:Nat)=>Zb (bif Nat.blt i (1+x0.1) then bif Nat.blt i (1) then b else numB v size (i - 1) else intOfAV (atL [Zb (IntKind.wrap IntKind.u8 (Int.fdiv v ((2:Int)^min (Int.toNat (IntKind.wrap IntKind.i64 ((8:Int)*((↑size:Int) - (1:Int) - (↑x0.1:Int))))) (64))))] j)) }])))) (.out (AV.osl (1) (1) (0) (1+x0.1)) ([none,some { es:=1,n:=1+x0.1,mu:=true,f:=Rep.fn fun (i j:Nat)=>Zb (bif Nat.blt i (1:Nat) then b else numB v size (i - (1:Nat))) }]) (AV.osl (1:Nat) (1:Nat) (0:Nat) ((1:Nat)+size)) ([none,some { es:=(1:Nat),n:=(1:Nat)+size,mu:=true,f:=Rep.fn fun (i x:Nat)=>Zb (bif Nat.blt i (1:Nat) then b else numB v size (i - (1:Nat))) }])))))
  (by kernel_rfl) ?_
 refine k_loop (fun _ hs=>hs.le (⟨by first|exact Ent.refl _|exact inc_ent (by omega)|exact Ent.nil rfl|exact Ent.of_eq (congrArg (AV.osl _ _ _) (by first|omega|(dsimp only;omega)))|exact Ent.of_eq (congrArg (AV.int _) (by first|omega|(dsimp only;omega))),by first|exact Ent.refl _|exact inc_ent (by omega)|exact Ent.nil rfl|exact Ent.of_eq (congrArg (AV.osl _ _ _) (by first|omega|(dsimp only;omega)))|exact Ent.of_eq (congrArg (AV.int _) (by first|omega|(dsimp only;omega))),Ent.of_eq (congrArg _ (by rw [wI (by omega) (by omega)];dsimp only;omega)),trivial⟩) (⟨numb_ob1 rfl,trivial⟩)) (fun x0=>?_)
 try (have q0:=x0.2;dsimp only at q0)
 refine k_br (fun h1=>?_) (fun h1=>?_)
 ·have g1:=cnd_dec_t h1
  refine k_req (by rw [wI (by omega) (by omega)];omega) ?_
  refine k_req (by first|omega|(simp only [Int.toNat_natCast];omega)) ?_
  exact k_again (⟨x0.1+1,by omega⟩) (fun _ hs=>hs.le (⟨by first|exact Ent.refl _|exact inc_ent (by omega)|exact Ent.nil rfl|exact Ent.of_eq (congrArg (AV.osl _ _ _) (by first|omega|(dsimp only;omega)))|exact Ent.of_eq (congrArg (AV.int _) (by first|omega|(dsimp only;omega))),by first|exact Ent.refl _|exact inc_ent (by omega)|exact Ent.nil rfl|exact Ent.of_eq (congrArg (AV.osl _ _ _) (by first|omega|(dsimp only;omega)))|exact Ent.of_eq (congrArg (AV.int _) (by first|omega|(dsimp only;omega))),Ent.of_eq (congrArg _ (by rw [wI (by omega) (by omega)];dsimp only;omega)),trivial⟩) (⟨numb_obs (f:=fun _ _=>b) (shr_num (by omega) h8),trivial⟩)) (by first|omega|(dsimp only;omega)|(simp;omega))
 ·have g1:=cnd_dec_f h1
  exact k_outg (Ent.of_eq (congrArg (AV.osl 1 1 0) (by omega))) (by repeat' (first|exact trivial|(first|exact ObEnt.refl _|exact ObEnt.junk|exact ObEnt.zero|exact ObEnt.push rfl rfl|exact ObEnt.pushRow rfl|exact ObEnt.len (by omega)|exact ObEnt.row (by repeat' (first|exact trivial|(first|exact Ent.refl _|exact inc_ent (by omega)|exact Ent.nil rfl|exact Ent.of_eq (congrArg (AV.osl _ _ _) (by first|omega|(dsimp only;omega)))|exact Ent.of_eq (congrArg (AV.int _) (by first|omega|(dsimp only;omega))))|refine And.intro ?_ ?_)))|refine And.intro ?_ ?_))
theorem write_int (l:List Int) (n:Int) (hl:l.length≤16384):Gives Tryz.prog gl0 139 [⟨1,l.length,true,.fn (ilF .u8 l)⟩] [.osl 0 1 0 l.length,.agg [.int .i64 1,.int .i64 n,bys 0 (fun _=>0),.isl 4 0 (fun _ _=>.junk)]]
  (.osl 1 1 0 (l++(It.int n).enc).length) [none,ilO .u8 (l++(It.int n).enc)]:=by
 have hw:=wu64_by n
 refine gives_sk (own:=ow3) (hand:=true) Tryz.func139 (by kernel_rfl) mixed (by kernel_rfl)
  (.br (decide ((↑(List.length l):Int)>(16384:Int))) (.out (AV.osl (0) (1) (0) (List.length l)) ([some { es:=1,n:=List.length l,mu:=true,f:=Rep.fn fun (i j:Nat)=>Zb (List.getD l i (0:Int)) }]) (AV.osl (1:Nat) (1:Nat) (0:Nat) (List.length (l++It.enc (It.int n)))) ([none,ilO IntKind.u8 (l++It.enc (It.int n))])) (.req ((List.length l+1)*1≤140737488355328) (.tt (.gc 183 ([{ es:=1,n:=List.length l+1,mu:=true,f:=Rep.fn fun (i j:Nat)=>Zb (bif Nat.blt i (List.length l) then List.getD l i (0:Int) else intOfAV (atL [Zb (IntKind.wrap IntKind.u8 (1:Int))] j)) }]) ([AV.osl (0) (1) (0) (List.length l+1),Zu (IntKind.wrap IntKind.u64 n),Zi 8]) (AV.osl (1:Nat) (1:Nat) (0:Nat) (List.length l+1+8)) ([none,some { es:=(1:Nat),n:=List.length l+1+8,mu:=true,f:=Rep.fn fun (i j:Nat)=>Zb (bif Nat.blt i (List.length l+1) then bif Nat.blt i (List.length l) then List.getD l i (0:Int) else intOfAV (atL [Zb (IntKind.wrap IntKind.u8 (1:Int))] j) else numB (IntKind.wrap IntKind.u64 n) (8) (i - (List.length l+1))) }]) (.out (AV.osl (1) (1) (0) (List.length l+1+8)) ([none,some { es:=1,n:=List.length l+1+8,mu:=true,f:=Rep.fn fun (i j:Nat)=>Zb (bif Nat.blt i (List.length l+1) then bif Nat.blt i (List.length l) then List.getD l i (0:Int) else intOfAV (atL [Zb (IntKind.wrap IntKind.u8 (1:Int))] j) else numB (IntKind.wrap IntKind.u64 n) (8) (i - (List.length l+1))) }]) (AV.osl (1:Nat) (1:Nat) (0:Nat) (List.length (l++It.enc (It.int n)))) ([none,ilO IntKind.u8 (l++It.enc (It.int n))]))))))
  (by kernel_rfl) ?_
 refine k_br (fun h0=>?_) (fun h0=>?_)
 ·have g0:=cnd_dec_t h0
  exact k_outg ((by exfalso;omega)) ((by exfalso;omega))
 ·have g0:=cnd_dec_f h0
  refine k_req (by first|omega|(simp only [Int.toNat_natCast];omega)) ?_
  refine k_tt ?_
  refine k_gc (number_g (List.length l+1) (fun (i j:Nat)=>bif Nat.blt i (List.length l) then List.getD l i (0:Int) else intOfAV (atL [Zb (IntKind.wrap IntKind.u8 (1:Int))] j)) (IntKind.wrap IntKind.u64 n) (by first|assumption|omega) (by first|assumption|omega) (8) (by first|assumption|omega) (by first|assumption|omega) (by first|assumption|omega)) ?_
  exact k_outg (Ent.of_eq (congrArg (AV.osl 1 1 0) (wr_int l n))) (⟨obl_eq (wr_int l n) (fun i hi=>wr1 hi),trivial⟩)
theorem write_byt (l:List Int) (n:Nat) (f:Nat→Int) (hl:l.length≤16384) (hn:n≤16384):Gives Tryz.prog gl0 139 [⟨1,l.length,true,.fn (ilF .u8 l)⟩] [.osl 0 1 0 l.length,.agg [.int .i64 2,.int .i64 0,bys n f,.isl 4 0 (fun _ _=>.junk)]]
  (.osl 1 1 0 (l++(It.byt n f).enc).length) [none,ilO .u8 (l++(It.byt n f).enc)]:=by
 have hw:=wu64_by n
 have e:IntKind.wrap .u64 (n:Int)=n:=wu64 (by omega) (by omega)
 refine gives_sk (own:=ow3) (hand:=true) Tryz.func139 (by kernel_rfl) mixed (by kernel_rfl)
  (.br (decide ((↑(List.length l):Int)>(16384:Int))) (.out (AV.osl (0) (1) (0) (List.length l)) ([some { es:=1,n:=List.length l,mu:=true,f:=Rep.fn fun (i j:Nat)=>Zb (List.getD l i (0:Int)) }]) (AV.osl (1:Nat) (1:Nat) (0:Nat) (List.length (l++It.enc (It.byt n f)))) ([none,ilO IntKind.u8 (l++It.enc (It.byt n f))])) (.req ((List.length l+1)*1≤140737488355328) (.ff (.tt (.gc 183 ([{ es:=1,n:=List.length l+1,mu:=true,f:=Rep.fn fun (i j:Nat)=>Zb (bif Nat.blt i (List.length l) then List.getD l i (0:Int) else intOfAV (atL [Zb (IntKind.wrap IntKind.u8 (2:Int))] j)) }]) ([AV.osl (0) (1) (0) (List.length l+1),Zu (IntKind.wrap IntKind.u64 (↑n:Int)),Zi 4]) (AV.osl (1:Nat) (1:Nat) (0:Nat) (List.length l+1+4)) ([none,some { es:=(1:Nat),n:=List.length l+1+4,mu:=true,f:=Rep.fn fun (i j:Nat)=>Zb (bif Nat.blt i (List.length l+1) then bif Nat.blt i (List.length l) then List.getD l i (0:Int) else intOfAV (atL [Zb (IntKind.wrap IntKind.u8 (2:Int))] j) else numB (IntKind.wrap IntKind.u64 (↑n:Int)) (4) (i - (List.length l+1))) }]) (.req ((List.length l+1+4+n)*1≤140737488355328) (.out (AV.osl (1) (1) (0) (List.length l+1+4+n)) ([none,some { es:=1,n:=List.length l+1+4+n,mu:=true,f:=Rep.fn fun (i j:Nat)=>Zb (bif Nat.blt i (List.length l+1+4) then bif Nat.blt i (List.length l+1) then bif Nat.blt i (List.length l) then List.getD l i (0:Int) else intOfAV (atL [Zb (IntKind.wrap IntKind.u8 (2:Int))] j) else numB (IntKind.wrap IntKind.u64 (↑n:Int)) (4) (i - (List.length l+1)) else f (i - (List.length l+1+4))) }]) (AV.osl (1:Nat) (1:Nat) (0:Nat) (List.length (l++It.enc (It.byt n f)))) ([none,ilO IntKind.u8 (l++It.enc (It.byt n f))]))))))))
  (by kernel_rfl) ?_
 refine k_br (fun h0=>?_) (fun h0=>?_)
 ·have g0:=cnd_dec_t h0
  exact k_outg ((by exfalso;omega)) ((by exfalso;omega))
 ·have g0:=cnd_dec_f h0
  refine k_req (by first|omega|(simp only [Int.toNat_natCast];omega)) ?_
  refine k_ff ?_
  refine k_tt ?_
  refine k_gc (number_g (List.length l+1) (fun (i j:Nat)=>bif Nat.blt i (List.length l) then List.getD l i (0:Int) else intOfAV (atL [Zb (IntKind.wrap IntKind.u8 (2:Int))] j)) (IntKind.wrap IntKind.u64 (↑n:Int)) (by first|assumption|omega) (by first|assumption|omega) (4) (by first|assumption|omega) (by first|assumption|omega) (by first|assumption|omega)) ?_
  refine k_req (by first|omega|(simp only [Int.toNat_natCast];omega)) ?_
  exact k_outg (Ent.of_eq (congrArg (AV.osl 1 1 0) (wr_byt l n f))) (⟨obl_eq (wr_byt l n f) (fun i hi=>by
                                                                                                     rw [e]
                                                                                                     exact wr2 hi),trivial⟩)
theorem write_lw (l:List Int) (n:Nat) (c:Nat→It) (E A:Nat→List Int) (hl:l.length≤16384) (hn:n≤16384) (hA0:A 0=l++(3::nbL n 4)) (hE:∀ k,A (k+1)=A k++E k) (hA:∀ k,k≤n→(A k).length≤16384)
  (hc:∀ i,i<n→∀ l:List Int,l.length≤16384→(l++E i).length≤16384→Gives Tryz.prog gl0 139 [⟨1,l.length,true,.fn (ilF .u8 l)⟩] [.osl 0 1 0 l.length,(c i).av] (.osl 1 1 0 (l++E i).length) [none,ilO .u8 (l++E i)]) :
  Gives Tryz.prog gl0 139 [⟨1,l.length,true,.fn (ilF .u8 l)⟩] [.osl 0 1 0 l.length,.agg [.int .i64 3,.int .i64 0,bys 0 (fun _=>0),It.sl n c]] (.osl 1 1 0 (A n).length) [none,ilO .u8 (A n)]:=by
 have hw:=wu64_by n
 have e:IntKind.wrap .u64 (n:Int)=n:=wu64 (by omega) (by omega)
 have l0:l.length+1+4=(A 0).length:=by rw [hA0];simp [nbL_len]
 have ls:∀ k,(A (k+1)).length=(A k).length+(E k).length:=fun k=>by rw [hE,List.length_append]
 refine gives_sk (own:=ow3) (hand:=true) Tryz.func139 (by kernel_rfl) mixed (by kernel_rfl)
  (.br (decide ((↑(List.length l):Int)>(16384:Int))) (.out (AV.osl (0) (1) (0) (List.length l)) ([some { es:=1,n:=List.length l,mu:=true,f:=Rep.fn fun (i j:Nat)=>Zb (List.getD l i (0:Int)) }]) (AV.osl (1:Nat) (1:Nat) (0:Nat) (List.length (A n))) ([none,ilO IntKind.u8 (A n)])) (.req ((List.length l+1)*1≤140737488355328) (.ff (.ff (.gc 183 ([{ es:=1,n:=List.length l+1,mu:=true,f:=Rep.fn fun (i j:Nat)=>Zb (bif Nat.blt i (List.length l) then List.getD l i (0:Int) else intOfAV (atL [Zb (IntKind.wrap IntKind.u8 (3:Int))] j)) }]) ([AV.osl (0) (1) (0) (List.length l+1),Zu (IntKind.wrap IntKind.u64 (↑n:Int)),Zi 4]) (AV.osl (1:Nat) (1:Nat) (0:Nat) (List.length l+1+4)) ([none,some { es:=(1:Nat),n:=List.length l+1+4,mu:=true,f:=Rep.fn fun (i j:Nat)=>Zb (bif Nat.blt i (List.length l+1) then bif Nat.blt i (List.length l) then List.getD l i (0:Int) else intOfAV (atL [Zb (IntKind.wrap IntKind.u8 (3:Int))] j) else numB (IntKind.wrap IntKind.u64 (↑n:Int)) (4) (i - (List.length l+1))) }]) (.loop ({ x:Nat // x≤n }) (fun (x:{ x:Nat // x≤n })=>mkSt [44,45,0,46] [AV.isl (4) n fun (i j:Nat)=>atL (It.cells (c i)) j,Zi (↑n:Int),AV.osl (1:Nat) (1:Nat) (0:Nat) (List.length (A (x.1))),Zi (↑(x.1):Int)] [none,ilO IntKind.u8 (A (x.1))]) (fun (x:{ x:Nat // x≤n })=>n - x.1) (⟨(0:Nat),Nat.zero_le n⟩) ([44,45,0,46]) ([233,185]) ([AV.isl (4) n fun (i j:Nat)=>atL (It.cells (c i)) j,Zi (↑n:Int),AV.osl (1) (1) (0) (List.length l+1+4),Zi 0]) ([none,some { es:=1,n:=List.length l+1+4,mu:=true,f:=Rep.fn fun (i j:Nat)=>Zb (bif Nat.blt i (List.length l+1) then bif Nat.blt i (List.length l) then List.getD l i (0:Int) else intOfAV (atL [Zb (IntKind.wrap IntKind.u8 (3:Int))] j) else numB (IntKind.wrap IntKind.u64 (↑n:Int)) (4) (i - (List.length l+1))) }]) (fun x6=>(.br (decide ((↑x6.1:Int)<(↑n:Int))) (.req ((0:Int)≤(↑x6.1:Int)∧(↑x6.1:Int)<(↑n:Int)) (.gc 139 ([{ es:=1,n:=List.length (A (x6.1)),mu:=true,f:=Rep.fn fun (i j:Nat)=>Zb (List.getD (A (x6.1)) i (0:Int)) }]) ([AV.osl (0) (1) (0) (List.length (A (x6.1))),AV.agg [Zi (It.kind (c (Int.toNat (↑x6.1:Int)))),Zi (It.num (c (Int.toNat (↑x6.1:Int)))),AV.isl (1) (It.nb (c (Int.toNat (↑x6.1:Int)))) fun (i x:Nat)=>Zb (It.fb (c (Int.toNat (↑x6.1:Int))) i),AV.isl (4) (It.nl (c (Int.toNat (↑x6.1:Int)))) (It.row (c (Int.toNat (↑x6.1:Int))))]]) (AV.osl (1:Nat) (1:Nat) (0:Nat) (List.length (A (x6.1)++E (Int.toNat (↑x6.1:Int))))) ([none,ilO IntKind.u8 (A (x6.1)++E (Int.toNat (↑x6.1:Int)))]) (.again (Again (1) (fun (x:{ x:Nat // x≤n })=>mkSt [44,45,0,46] [AV.isl (4) n fun (i j:Nat)=>atL (It.cells (c i)) j,Zi (↑n:Int),AV.osl (1:Nat) (1:Nat) (0:Nat) (List.length (A (x.1))),Zi (↑(x.1):Int)] [none,ilO IntKind.u8 (A (x.1))]) (fun (x:{ x:Nat // x≤n })=>n - x.1) x6) ([44,45,0,46]) ([90,58]) ([AV.isl (4) n fun (i j:Nat)=>atL (It.cells (c i)) j,Zi (↑n:Int),AV.osl (1) (1) (0) (List.length (A (x6.1)++E (Int.toNat (↑x6.1:Int)))),Zi (IntKind.wrap IntKind.i64 ((↑x6.1:Int)+(1:Int)))]) ([none,some { es:=1,n:=List.length (A (x6.1)++E (Int.toNat (↑x6.1:Int))),mu:=true,f:=Rep.fn fun (i j:Nat)=>Zb (List.getD (A (x6.1)++E (Int.toNat (↑x6.1:Int))) i (0:Int)) }])))) (.out (AV.osl (1) (1) (0) (List.length (A (x6.1)))) ([none,some { es:=1,n:=List.length (A (x6.1)),mu:=true,f:=Rep.fn fun (i j:Nat)=>Zb (List.getD (A (x6.1)) i (0:Int)) }]) (AV.osl (1:Nat) (1:Nat) (0:Nat) (List.length (A n))) ([none,ilO IntKind.u8 (A n)]))))))))))
  (by kernel_rfl) ?_
 refine k_br (fun h0=>?_) (fun h0=>?_)
 ·have g0:=cnd_dec_t h0
  exact k_outg ((by exfalso;omega)) ((by exfalso;omega))
 ·have g0:=cnd_dec_f h0
  refine k_req (by first|omega|(simp only [Int.toNat_natCast];omega)) ?_
  refine k_ff ?_
  refine k_ff ?_
  refine k_gc (number_g (List.length l+1) (fun (i j:Nat)=>bif Nat.blt i (List.length l) then List.getD l i (0:Int) else intOfAV (atL [Zb (IntKind.wrap IntKind.u8 (3:Int))] j)) (IntKind.wrap IntKind.u64 (↑n:Int)) (by first|omega|exact hA _ (by omega)|(have q:=hA (x6.1+1) (by omega);rw [hE] at q;exact q)) (by first|omega|exact hA _ (by omega)|(have q:=hA (x6.1+1) (by omega);rw [hE] at q;exact q)) (4) (by first|omega|exact hA _ (by omega)|(have q:=hA (x6.1+1) (by omega);rw [hE] at q;exact q)) (by first|omega|exact hA _ (by omega)|(have q:=hA (x6.1+1) (by omega);rw [hE] at q;exact q)) (by first|omega|exact hA _ (by omega)|(have q:=hA (x6.1+1) (by omega);rw [hE] at q;exact q))) ?_
  refine k_loop (fun _ hs=>hs.le (by repeat' (first|exact trivial|(first|exact Ent.refl _|exact inc_ent (by omega)|exact Ent.nil rfl|exact Ent.of_eq (congrArg (AV.osl _ _ _) (by first|omega|(dsimp only;omega)))|exact Ent.of_eq (congrArg (AV.int _) (by first|omega|(dsimp only;omega))))|refine And.intro ?_ ?_)) (⟨obl_eq l0 (fun i hi=>by
                                                                                                     rw [e,hA0]
                                                                                                     exact wr1 (size:=4) hi),trivial⟩)) (fun x6=>?_)
  refine k_br (fun h7=>?_) (fun h7=>?_)
  ·have g7:=cnd_dec_t h7
   refine k_req (by first|omega|(simp only [Int.toNat_natCast];omega)) ?_
   refine k_gc (hc (Int.toNat (↑x6.1:Int)) (by first|omega|exact hA _ (by omega)|(have q:=hA (x6.1+1) (by omega);rw [hE] at q;exact q)) (A (x6.1)) (by first|omega|exact hA _ (by omega)|(have q:=hA (x6.1+1) (by omega);rw [hE] at q;exact q)) (by first|omega|exact hA _ (by omega)|(have q:=hA (x6.1+1) (by omega);rw [hE] at q;exact q))) ?_
   exact k_again (⟨x6.1+1,by omega⟩) (fun _ hs=>hs.le (⟨by first|exact Ent.refl _|exact inc_ent (by omega)|exact Ent.nil rfl|exact Ent.of_eq (congrArg (AV.osl _ _ _) (by first|omega|(dsimp only;omega)))|exact Ent.of_eq (congrArg (AV.int _) (by first|omega|(dsimp only;omega))),by first|exact Ent.refl _|exact inc_ent (by omega)|exact Ent.nil rfl|exact Ent.of_eq (congrArg (AV.osl _ _ _) (by first|omega|(dsimp only;omega)))|exact Ent.of_eq (congrArg (AV.int _) (by first|omega|(dsimp only;omega))),Ent.of_eq (congrArg (fun z=>AV.osl 1 1 0 (List.length z)) (hE x6.1).symm),by first|exact Ent.refl _|exact inc_ent (by omega)|exact Ent.nil rfl|exact Ent.of_eq (congrArg (AV.osl _ _ _) (by first|omega|(dsimp only;omega)))|exact Ent.of_eq (congrArg (AV.int _) (by first|omega|(dsimp only;omega))),trivial⟩) (⟨obl_cg (hE x6.1),trivial⟩)) (by first|omega|(dsimp only;omega)|(simp;omega))
  ·have g7:=cnd_dec_f h7
   exact k_outg (Ent.of_eq (congrArg (fun z=>AV.osl 1 1 0 (A z).length) (by omega))) (⟨obl_cg (congrArg A (by omega)),trivial⟩)
theorem write_int0 (n:Int):Gives Tryz.prog gl0 139 [] [.nsl,.agg [.int .i64 1,.int .i64 n,bys 0 (fun _=>0),.isl 4 0 (fun _ _=>.junk)]] (.osl 0 1 0 (It.int n).enc.length) [ilO .u8 (It.int n).enc]:=by
 have hw:=wu64_by n
 refine gives_sk (own:=ow3) (hand:=true) Tryz.func139 (by kernel_rfl) mixed (by kernel_rfl)
  (.ff (.req (1≤140737488355328) (.tt (.gc 183 ([{ es:=1,n:=1,mu:=true,f:=Rep.lst [[Zb (IntKind.wrap IntKind.u8 (1:Int))]] }]) ([AV.osl (0) (1) (0) (1),Zu (IntKind.wrap IntKind.u64 n),Zi 8]) (AV.osl (1:Nat) (1:Nat) (0:Nat) ((1:Nat)+8)) ([none,some { es:=(1:Nat),n:=(1:Nat)+8,mu:=true,f:=Rep.fn fun (i x:Nat)=>Zb (bif Nat.blt i (1:Nat) then IntKind.wrap IntKind.u8 (1:Int) else numB (IntKind.wrap IntKind.u64 n) (8) (i - (1:Nat))) }]) (.out (AV.osl (0) (1) (0) (9)) ([some { es:=1,n:=9,mu:=true,f:=Rep.fn fun (i j:Nat)=>Zb (bif Nat.blt i (1:Nat) then IntKind.wrap IntKind.u8 (1:Int) else numB (IntKind.wrap IntKind.u64 n) (8) (i - (1:Nat))) }]) (AV.osl (0:Nat) (1:Nat) (0:Nat) (List.length (It.enc (It.int n)))) ([ilO IntKind.u8 (It.enc (It.int n))]))))))
  (by kernel_rfl) ?_
 refine k_ff ?_
 refine k_req (by first|omega|(simp only [Int.toNat_natCast];omega)) ?_
 refine k_tt ?_
 refine k_gc (number_h (IntKind.wrap IntKind.u8 (1:Int)) (IntKind.wrap IntKind.u64 n) (by first|assumption|omega) (by first|assumption|omega) (8) (by first|assumption|omega) (by first|assumption|omega)) ?_
 exact k_outg (Ent.of_eq (congrArg (AV.osl 0 1 0) (int_len n).symm)) (⟨obl_eq (int_len n).symm (fun i hi=>enc1 (size:=8) hi),trivial⟩)
theorem write_byt0 (n:Nat) (f:Nat→Int) (hn:n≤16384):Gives Tryz.prog gl0 139 [] [.nsl,.agg [.int .i64 2,.int .i64 0,bys n f,.isl 4 0 (fun _ _=>.junk)]] (.osl 0 1 0 (It.byt n f).enc.length) [ilO .u8 (It.byt n f).enc]:=by
 have hw:=wu64_by n
 have e:IntKind.wrap .u64 (n:Int)=n:=wu64 (by omega) (by omega)
 refine gives_sk (own:=ow3) (hand:=true) Tryz.func139 (by kernel_rfl) mixed (by kernel_rfl)
  (.ff (.req (1≤140737488355328) (.ff (.tt (.gc 183 ([{ es:=1,n:=1,mu:=true,f:=Rep.lst [[Zb (IntKind.wrap IntKind.u8 (2:Int))]] }]) ([AV.osl (0) (1) (0) (1),Zu (IntKind.wrap IntKind.u64 (↑n:Int)),Zi 4]) (AV.osl (1:Nat) (1:Nat) (0:Nat) ((1:Nat)+4)) ([none,some { es:=(1:Nat),n:=(1:Nat)+4,mu:=true,f:=Rep.fn fun (i x:Nat)=>Zb (bif Nat.blt i (1:Nat) then IntKind.wrap IntKind.u8 (2:Int) else numB (IntKind.wrap IntKind.u64 (↑n:Int)) (4) (i - (1:Nat))) }]) (.req ((5+n)*1≤140737488355328) (.out (AV.osl (0) (1) (0) (5+n)) ([some { es:=1,n:=5+n,mu:=true,f:=Rep.fn fun (i j:Nat)=>Zb (bif Nat.blt i (5) then bif Nat.blt i (1) then IntKind.wrap IntKind.u8 (2:Int) else numB (IntKind.wrap IntKind.u64 (↑n:Int)) (4) (i - 1) else f (i - 5)) }]) (AV.osl (0:Nat) (1:Nat) (0:Nat) (List.length (It.enc (It.byt n f)))) ([ilO IntKind.u8 (It.enc (It.byt n f))]))))))))
  (by kernel_rfl) ?_
 refine k_ff ?_
 refine k_req (by first|omega|(simp only [Int.toNat_natCast];omega)) ?_
 refine k_ff ?_
 refine k_tt ?_
 refine k_gc (number_h (IntKind.wrap IntKind.u8 (2:Int)) (IntKind.wrap IntKind.u64 (↑n:Int)) (by first|assumption|omega) (by first|assumption|omega) (4) (by first|assumption|omega) (by first|assumption|omega)) ?_
 refine k_req (by first|omega|(simp only [Int.toNat_natCast];omega)) ?_
 exact k_outg (Ent.of_eq (congrArg (AV.osl 0 1 0) (byt_len n f).symm)) (⟨obl_eq (byt_len n f).symm (fun i hi=>by
                                                                                                     rw [e]
                                                                                                     exact enc2 hi),trivial⟩)
theorem write_lw0 (n:Nat) (c:Nat→It) (E A:Nat→List Int) (hn:n≤16384) (hA0:A 0=3::nbL n 4) (hE:∀ k,A (k+1)=A k++E k) (hA:∀ k,k≤n→(A k).length≤16384)
  (hc:∀ i,i<n→∀ l:List Int,l.length≤16384→(l++E i).length≤16384→Gives Tryz.prog gl0 139 [⟨1,l.length,true,.fn (ilF .u8 l)⟩] [.osl 0 1 0 l.length,(c i).av] (.osl 1 1 0 (l++E i).length) [none,ilO .u8 (l++E i)]) :
  Gives Tryz.prog gl0 139 [] [.nsl,.agg [.int .i64 3,.int .i64 0,bys 0 (fun _=>0),It.sl n c]] (.osl 0 1 0 (A n).length) [ilO .u8 (A n)]:=by
 have hw:=wu64_by n
 have e:IntKind.wrap .u64 (n:Int)=n:=wu64 (by omega) (by omega)
 have l0:1+4=(A 0).length:=by rw [hA0];simp [nbL_len]
 have ls:∀ k,(A (k+1)).length=(A k).length+(E k).length:=fun k=>by rw [hE,List.length_append]
 refine gives_sk (own:=ow3) (hand:=true) Tryz.func139 (by kernel_rfl) mixed (by kernel_rfl)
  (.ff (.req (1≤140737488355328) (.ff (.ff (.gc 183 ([{ es:=1,n:=1,mu:=true,f:=Rep.lst [[Zb (IntKind.wrap IntKind.u8 (3:Int))]] }]) ([AV.osl (0) (1) (0) (1),Zu (IntKind.wrap IntKind.u64 (↑n:Int)),Zi 4]) (AV.osl (1:Nat) (1:Nat) (0:Nat) ((1:Nat)+4)) ([none,some { es:=(1:Nat),n:=(1:Nat)+4,mu:=true,f:=Rep.fn fun (i x:Nat)=>Zb (bif Nat.blt i (1:Nat) then IntKind.wrap IntKind.u8 (3:Int) else numB (IntKind.wrap IntKind.u64 (↑n:Int)) (4) (i - (1:Nat))) }]) (.loop ({ x:Nat // x≤n }) (fun (x:{ x:Nat // x≤n })=>mkSt [44,45,0,46] [AV.isl (4) n fun (i j:Nat)=>atL (It.cells (c i)) j,Zi (↑n:Int),AV.osl (0:Nat) (1:Nat) (0:Nat) (List.length (A (x.1))),Zi (↑(x.1):Int)] [ilO IntKind.u8 (A (x.1))]) (fun (x:{ x:Nat // x≤n })=>n - x.1) (⟨(0:Nat),Nat.zero_le n⟩) ([44,45,0,46]) ([184]) ([AV.isl (4) n fun (i j:Nat)=>atL (It.cells (c i)) j,Zi (↑n:Int),AV.osl (0) (1) (0) (5),Zi 0]) ([some { es:=1,n:=5,mu:=true,f:=Rep.fn fun (i j:Nat)=>Zb (bif Nat.blt i (1:Nat) then IntKind.wrap IntKind.u8 (3:Int) else numB (IntKind.wrap IntKind.u64 (↑n:Int)) (4) (i - (1:Nat))) }]) (fun x5=>(.br (decide ((↑x5.1:Int)<(↑n:Int))) (.req ((0:Int)≤(↑x5.1:Int)∧(↑x5.1:Int)<(↑n:Int)) (.gc 139 ([{ es:=1,n:=List.length (A (x5.1)),mu:=true,f:=Rep.fn fun (i j:Nat)=>Zb (List.getD (A (x5.1)) i (0:Int)) }]) ([AV.osl (0) (1) (0) (List.length (A (x5.1))),AV.agg [Zi (It.kind (c (Int.toNat (↑x5.1:Int)))),Zi (It.num (c (Int.toNat (↑x5.1:Int)))),AV.isl (1) (It.nb (c (Int.toNat (↑x5.1:Int)))) fun (i x:Nat)=>Zb (It.fb (c (Int.toNat (↑x5.1:Int))) i),AV.isl (4) (It.nl (c (Int.toNat (↑x5.1:Int)))) (It.row (c (Int.toNat (↑x5.1:Int))))]]) (AV.osl (1:Nat) (1:Nat) (0:Nat) (List.length (A (x5.1)++E (Int.toNat (↑x5.1:Int))))) ([none,ilO IntKind.u8 (A (x5.1)++E (Int.toNat (↑x5.1:Int)))]) (.again (Again (0) (fun (x:{ x:Nat // x≤n })=>mkSt [44,45,0,46] [AV.isl (4) n fun (i j:Nat)=>atL (It.cells (c i)) j,Zi (↑n:Int),AV.osl (0:Nat) (1:Nat) (0:Nat) (List.length (A (x.1))),Zi (↑(x.1):Int)] [ilO IntKind.u8 (A (x.1))]) (fun (x:{ x:Nat // x≤n })=>n - x.1) x5) ([44,45,0,46]) ([57]) ([AV.isl (4) n fun (i j:Nat)=>atL (It.cells (c i)) j,Zi (↑n:Int),AV.osl (0) (1) (0) (List.length (A (x5.1)++E (Int.toNat (↑x5.1:Int)))),Zi (IntKind.wrap IntKind.i64 ((↑x5.1:Int)+(1:Int)))]) ([some { es:=1,n:=List.length (A (x5.1)++E (Int.toNat (↑x5.1:Int))),mu:=true,f:=Rep.fn fun (i j:Nat)=>Zb (List.getD (A (x5.1)++E (Int.toNat (↑x5.1:Int))) i (0:Int)) }])))) (.out (AV.osl (0) (1) (0) (List.length (A (x5.1)))) ([some { es:=1,n:=List.length (A (x5.1)),mu:=true,f:=Rep.fn fun (i j:Nat)=>Zb (List.getD (A (x5.1)) i (0:Int)) }]) (AV.osl (0:Nat) (1:Nat) (0:Nat) (List.length (A n))) ([ilO IntKind.u8 (A n)]))))))))))
  (by kernel_rfl) ?_
 refine k_ff ?_
 refine k_req (by first|omega|(simp only [Int.toNat_natCast];omega)) ?_
 refine k_ff ?_
 refine k_ff ?_
 refine k_gc (number_h (IntKind.wrap IntKind.u8 (3:Int)) (IntKind.wrap IntKind.u64 (↑n:Int)) (by first|omega|exact hA _ (by omega)|(have q:=hA (x5.1+1) (by omega);rw [hE] at q;exact q)) (by first|omega|exact hA _ (by omega)|(have q:=hA (x5.1+1) (by omega);rw [hE] at q;exact q)) (4) (by first|omega|exact hA _ (by omega)|(have q:=hA (x5.1+1) (by omega);rw [hE] at q;exact q)) (by first|omega|exact hA _ (by omega)|(have q:=hA (x5.1+1) (by omega);rw [hE] at q;exact q))) ?_
 refine k_loop (fun _ hs=>hs.le (by repeat' (first|exact trivial|(first|exact Ent.refl _|exact inc_ent (by omega)|exact Ent.nil rfl|exact Ent.of_eq (congrArg (AV.osl _ _ _) (by first|omega|(dsimp only;omega)))|exact Ent.of_eq (congrArg (AV.int _) (by first|omega|(dsimp only;omega))))|refine And.intro ?_ ?_)) (⟨obl_eq l0 (fun i hi=>by
                                                                                                     rw [e,hA0]
                                                                                                     exact enc1 (size:=4) hi),trivial⟩)) (fun x5=>?_)
 refine k_br (fun h6=>?_) (fun h6=>?_)
 ·have g6:=cnd_dec_t h6
  refine k_req (by first|omega|(simp only [Int.toNat_natCast];omega)) ?_
  refine k_gc (hc (Int.toNat (↑x5.1:Int)) (by first|omega|exact hA _ (by omega)|(have q:=hA (x5.1+1) (by omega);rw [hE] at q;exact q)) (A (x5.1)) (by first|omega|exact hA _ (by omega)|(have q:=hA (x5.1+1) (by omega);rw [hE] at q;exact q)) (by first|omega|exact hA _ (by omega)|(have q:=hA (x5.1+1) (by omega);rw [hE] at q;exact q))) ?_
  exact k_again (⟨x5.1+1,by omega⟩) (fun _ hs=>hs.le (⟨by first|exact Ent.refl _|exact inc_ent (by omega)|exact Ent.nil rfl|exact Ent.of_eq (congrArg (AV.osl _ _ _) (by first|omega|(dsimp only;omega)))|exact Ent.of_eq (congrArg (AV.int _) (by first|omega|(dsimp only;omega))),by first|exact Ent.refl _|exact inc_ent (by omega)|exact Ent.nil rfl|exact Ent.of_eq (congrArg (AV.osl _ _ _) (by first|omega|(dsimp only;omega)))|exact Ent.of_eq (congrArg (AV.int _) (by first|omega|(dsimp only;omega))),Ent.of_eq (congrArg (fun z=>AV.osl 0 1 0 (List.length z)) (hE x5.1).symm),by first|exact Ent.refl _|exact inc_ent (by omega)|exact Ent.nil rfl|exact Ent.of_eq (congrArg (AV.osl _ _ _) (by first|omega|(dsimp only;omega)))|exact Ent.of_eq (congrArg (AV.int _) (by first|omega|(dsimp only;omega))),trivial⟩) (⟨obl_cg (hE x5.1),trivial⟩)) (by first|omega|(dsimp only;omega)|(simp;omega))
 ·have g6:=cnd_dec_f h6
  exact k_outg (Ent.of_eq (congrArg (fun z=>AV.osl 0 1 0 (A z).length) (by omega))) (⟨obl_cg (congrArg A (by omega)),trivial⟩)
theorem write_c:∀ (x:It) (l:List Int),l.length≤16384→(l++x.enc).length≤16384→Gives Tryz.prog gl0 139 [⟨1,l.length,true,.fn (ilF .u8 l)⟩] [.osl 0 1 0 l.length,x.av] (.osl 1 1 0 (l++x.enc).length) [none,ilO .u8 (l++x.enc)]
 | .int n,l,h,_=>write_int l n h
 | .byt n f,l,h,h'=>write_byt l n f h (by rw [← wr_byt] at h';omega)
 | .li n c,l,h,h'=>by
  have hA:∀ k,k≤n→(l++It.encP n c k).length≤16384:=fun k hk=>by
   have:=It.encP_le n c hk
   rw [It.enc_li,List.length_append] at h'
   rw [List.length_append]
   omega
  exact write_lw l n c (fun i=>(c i).enc) (fun k=>l++It.encP n c k) h (by have:=It.encP_len n c n;have:=hA n (Nat.le_refl _);rw [List.length_append] at this;omega) (by rw [It.encP_zero]) (fun k=>by rw [It.encP_succ,List.append_assoc]) hA
   (fun i hi l h h'=>write_c (c i) l h h')
theorem write_n:∀ x:It,x.enc.length≤16384→Gives Tryz.prog gl0 139 [] [.nsl,x.av] (.osl 0 1 0 x.enc.length) [ilO .u8 x.enc]
 | .int n,_=>write_int0 n
 | .byt n f,h=>write_byt0 n f (by rw [byt_len] at h;omega)
 | .li n c,h=>write_lw0 n c (fun i=>(c i).enc) (It.encP n c) (by have:=It.encP_len n c n;rw [It.enc_li] at h;omega) (It.encP_zero n c) (It.encP_succ n c) (fun k hk=>Nat.le_trans (It.encP_le n c hk) h)
   (fun i _ l h h'=>write_c (c i) l h h')

theorem within1_w (x : It) (d : Int) (b : Bool) (hd : 0 < d ∧ d ≤ 8) (h : Pure Tryz.prog gl0 182 [x.av, .int .i64 (d - 1)] (.bool b)) : Pure Tryz.prog gl0 215 [x.av, .ipt 1 (atL [.int .i64 d])] (.bool (!b)) := by
  have hw : IntKind.wrap .i64 (d - 1) = d - 1 := wI (by omega) (by omega)
  rw [← hw] at h
  refine pure_sk (own := ow0) Tryz.func215 (by kernel_rfl) mixed (by kernel_rfl)
    (.sc (true) 182 ([AV.agg [Zi (It.kind x), Zi (It.num x), AV.isl (1) (It.nb x) fun (i x_1 : Nat) => Zb (It.fb x i), AV.isl (4) (It.nl x) (It.row x)], Zi (IntKind.wrap IntKind.i64 (d - (1 : Int)))]) (AV.bool b) (.out (AV.bool !b) [] (AV.bool !b) []))
    (by kernel_rfl) ?_
  refine k_sc (h) ?_
  exact k_out (Ent.refl _)

theorem indexI_w (n : Nat) (c : Nat → It) (d : Int) (p : Nat → Bool) (hn : n ≤ 1000) (hc : ∀ i, i < n → Pure Tryz.prog gl0 215 [(c i).av, .ipt 1 (atL [.int .i64 d])] (.bool (p i))) :
    Pure Tryz.prog gl0 238 [It.sl n c, .fn (.func 215) [] [.ipt 1 (atL [.int .i64 d])]] (.int .i64 (firstI p n 0)) := by
  refine pure_sk (own := ow0) Tryz.func238 (by kernel_rfl) mixed (by kernel_rfl)
    (.loop ({ x : Nat // x ≤ n ∧ (fun (i : Nat) => firstI p n (0 : Nat) = firstI p (n - i) i) x }) (fun (x : { x : Nat // x ≤ n ∧ (fun (i : Nat) => firstI p n (0 : Nat) = firstI p (n - i) i) x }) => mkSt [0, 1, 7, 8] [AV.isl (4) n fun (i j : Nat) => atL (It.cells (c i)) j, AV.fn (Fn.func (215 : FuncId)) [] [AV.ipt (1) (atL [Zi d])], Zi (↑n : Int), Zi (↑(x.1) : Int)] []) (fun (x : { x : Nat // x ≤ n ∧ (fun (i : Nat) => firstI p n (0 : Nat) = firstI p (n - i) i) x }) => n - x.1) (⟨(0 : Nat), ⟨Nat.zero_le n, rfl⟩⟩) ([0, 1, 7, 8]) ([]) ([AV.isl (4) n fun (i j : Nat) => atL (It.cells (c i)) j, AV.fn (Fn.func (215 : FuncId)) [] [AV.ipt (1) (atL [Zi d])], Zi (↑n : Int), Zi 0]) ([]) (fun x0 => (.br (decide ((↑x0.1 : Int) < (↑n : Int))) (.req ((0 : Int) ≤ (↑x0.1 : Int) ∧ (↑x0.1 : Int) < (↑n : Int)) (.sc (true) 215 ([AV.agg [Zi (It.kind (c (Int.toNat (↑x0.1 : Int)))), Zi (It.num (c (Int.toNat (↑x0.1 : Int)))), AV.isl (1) (It.nb (c (Int.toNat (↑x0.1 : Int)))) fun (i x : Nat) => Zb (It.fb (c (Int.toNat (↑x0.1 : Int))) i), AV.isl (4) (It.nl (c (Int.toNat (↑x0.1 : Int)))) (It.row (c (Int.toNat (↑x0.1 : Int))))], AV.ipt (1) (atL [Zi d])]) (AV.bool (p (Int.toNat (↑x0.1 : Int)))) (.br (p (Int.toNat (↑x0.1 : Int))) (.out (Zi (↑x0.1 : Int)) [] (Zi (firstI p n (0 : Nat))) []) (.again (Again (0) (fun (x : { x : Nat // x ≤ n ∧ (fun (i : Nat) => firstI p n (0 : Nat) = firstI p (n - i) i) x }) => mkSt [0, 1, 7, 8] [AV.isl (4) n fun (i j : Nat) => atL (It.cells (c i)) j, AV.fn (Fn.func (215 : FuncId)) [] [AV.ipt (1) (atL [Zi d])], Zi (↑n : Int), Zi (↑(x.1) : Int)] []) (fun (x : { x : Nat // x ≤ n ∧ (fun (i : Nat) => firstI p n (0 : Nat) = firstI p (n - i) i) x }) => n - x.1) x0) ([0, 1, 7, 8]) ([]) ([AV.isl (4) n fun (i j : Nat) => atL (It.cells (c i)) j, AV.fn (Fn.func (215 : FuncId)) [] [AV.ipt (1) (atL [Zi d])], Zi (↑n : Int), Zi (IntKind.wrap IntKind.i64 ((↑x0.1 : Int) + (1 : Int)))]) ([]))))) (.out (Zi (-1)) [] (Zi (firstI p n (0 : Nat))) []))))
    (by kernel_rfl) ?_
  refine k_loop (fun _ hs => hs.le (⟨.refl _, .refl _, .refl _, .refl _, trivial⟩) (trivial)) (fun x0 => ?_)
  try (have q0 := x0.2; dsimp only at q0)
  refine k_br (fun h1 => ?_) (fun h1 => ?_)
  · have g1 := cnd_dec_t h1
    refine k_req (by omega) ?_
    refine k_sc (hc (Int.toNat (↑x0.1 : Int)) (by omega)) ?_
    refine k_br (fun h4 => ?_) (fun h4 => ?_)
    · have g4 := cnd_id_t h4
      try simp only [Int.toNat_natCast] at g4
      exact k_out (Ent.of_eq (congrArg _ (first_hit x0.2.2 (by omega) g4)))
    · have g4 := cnd_id_f h4
      try simp only [Int.toNat_natCast] at g4
      exact k_again (⟨x0.1 + 1, by omega, first_next x0.2.2 (by omega) g4⟩) (fun _ hs => hs.le (⟨.refl _, .refl _, .refl _, inc_ent (by omega), trivial⟩) (trivial)) (by dsimp only; omega)
  · have g1 := cnd_dec_f h1
    exact k_out (Ent.of_eq (congrArg _ (first_miss x0.2.2 (by omega))))

theorem containsI_w (n : Nat) (c : Nat → It) (d : Int) (p : Nat → Bool) (hn : n ≤ 1000) (hc : ∀ i, i < n → Pure Tryz.prog gl0 215 [(c i).av, .ipt 1 (atL [.int .i64 d])] (.bool (p i))) :
    Pure Tryz.prog gl0 214 [It.sl n c, .fn (.func 215) [] [.ipt 1 (atL [.int .i64 d])]] (.bool (decide (firstI p n 0 ≥ 0))) := by
  refine pure_sk (own := ow0) Tryz.func214 (by kernel_rfl) mixed (by kernel_rfl)
    (.sc (true) 238 ([AV.isl (4) n fun (i j : Nat) => atL (It.cells (c i)) j, AV.fn (Fn.func (215 : FuncId)) [] [AV.ipt (1) (atL [Zi d])]]) (Zi (firstI p n (0 : Nat))) (.out (AV.bool (decide (firstI p n (0) ≥ (0 : Int)))) [] (AV.bool (decide (firstI p n (0 : Nat) ≥ (0 : Int)))) []))
    (by kernel_rfl) ?_
  refine k_sc ((indexI_w n c d p hn hc)) ?_
  exact k_out (Ent.refl _)

theorem within_int (n d : Int) : Pure Tryz.prog gl0 182 [.agg [.int .i64 1, .int .i64 n, bys 0 (fun _ => 0), .isl 4 0 (fun _ _ => .junk)], .int .i64 d] (.bool true) := by
  refine pure_sk (own := ow0) Tryz.func182 (by kernel_rfl) mixed (by kernel_rfl)
    (.tt (.out (AV.bool true) [] (AV.bool true) []))
    (by kernel_rfl) ?_
  refine k_tt ?_
  exact k_out (Ent.refl _)

theorem within_byt (n : Nat) (f : Nat → Int) (d : Int) : Pure Tryz.prog gl0 182 [.agg [.int .i64 2, .int .i64 0, bys n f, .isl 4 0 (fun _ _ => .junk)], .int .i64 d] (.bool true) := by
  refine pure_sk (own := ow0) Tryz.func182 (by kernel_rfl) mixed (by kernel_rfl)
    (.ff (.tt (.out (AV.bool true) [] (AV.bool true) [])))
    (by kernel_rfl) ?_
  refine k_ff ?_
  refine k_tt ?_
  exact k_out (Ent.refl _)

theorem within_lw (n : Nat) (c : Nat → It) (d : Int) (p : Nat → Bool) (hn : n < 9223372036854775808) (hc : 0 < d → n ≤ 1000 → Pure Tryz.prog gl0 214 [It.sl n c, .fn (.func 215) [] [.ipt 1 (atL [.int .i64 d])]] (.bool (decide (firstI p n 0 ≥ 0)))) :
    Pure Tryz.prog gl0 182 [.agg [.int .i64 3, .int .i64 0, bys 0 (fun _ => 0), It.sl n c], .int .i64 d] (.bool (decide (0 < d) && Nat.ble n 1000 && (List.range n).all (fun i => !p i))) := by
  refine pure_sk (own := ow0) Tryz.func182 (by kernel_rfl) mixed (by kernel_rfl)
    (.ff (.ff (.tt (.sc ((decide (d > (0 : Int)) && decide ((↑n : Int) ≤ (1000 : Int))) == true) 214 ([AV.isl (4) n fun (i j : Nat) => atL (It.cells (c i)) j, AV.fn (Fn.func (215 : Nat)) [] [AV.ipt (1) fun (k : Nat) => atL [Zi d] k]]) (AV.bool (decide (firstI p n (0 : Nat) ≥ (0 : Int)))) (.out (AV.bool (decide (d > (0 : Int)) && decide ((↑n : Int) ≤ (1000 : Int)) && !decide (firstI p n (0) ≥ (0 : Int)))) [] (AV.bool (decide ((0 : Int) < d) && Nat.ble n (1000 : Nat) && List.all (List.range n) fun (i : Nat) => !p i)) [])))))
    (by kernel_rfl) ?_
  refine k_ff ?_
  refine k_ff ?_
  refine k_tt ?_
  refine k_scg (fun h3 => hc (by simp at h3; omega) (by simp at h3; omega)) ?_
  exact k_out (Ent.of_eq (congrArg _ (li_ok d n p)))

theorem within_c : ∀ (x : It) (d : Int), 0 ≤ d ∧ d ≤ 8 → x.enc.length ≤ 1099511627776 → Pure Tryz.prog gl0 182 [x.av, .int .i64 d] (.bool (x.okD d))
  | .int n, d, _, _ => within_int n d
  | .byt n f, d, _, _ => within_byt n f d
  | .li n c, d, hd, hn => by
    have h := within_lw n c d (fun i => !(c i).okD (d - 1)) (by have := It.encP_len n c n; rw [It.enc_li] at hn; omega) (fun h1 h2 => containsI_w n c d _ h2 (fun i hi => within1_w (c i) d _ ⟨h1, hd.2⟩ (within_c (c i) (d - 1) (by omega) (by have := It.enc_child (c := c) hi; omega))))
    simp only [Bool.not_not] at h
    exact h

theorem valid_c (x : It) (h : x.enc.length ≤ 1099511627776) : Pure Tryz.prog gl0 138 [.agg [.int .i64 x.kind, .int .i64 x.num, bys x.nb x.fb, .isl 4 x.nl x.row]] (.bool (x.okD 8)) := by
  have hw := within_c x 8 (by omega) h
  refine pure_sk (own := ow0) Tryz.func138 (by kernel_rfl) mixed (by kernel_rfl)
    (.sc (true) 182 ([AV.agg [Zi (It.kind x), Zi (It.num x), AV.isl (1) (It.nb x) fun (i x_1 : Nat) => Zb (It.fb x i), AV.isl (4) (It.nl x) (It.row x)], Zi 8]) (AV.bool (It.okD x (8 : Int))) (.out (AV.bool (It.okD x (8 : Int))) [] (AV.bool (It.okD x (8 : Int))) []))
    (by kernel_rfl) ?_
  refine k_sc (hw) ?_
  exact k_out (Ent.refl _)

theorem encode_c (x : It) (h : x.okD 8 = true) (hl : x.enc.length ≤ 16384) : Pure Tryz.prog gl0 88 [x.av] (.tup [il .u8 x.enc, .int .i64 0]) := by
  have hv := valid_c x (by omega)
  rw [h] at hv
  have hn := write_n x hl
  refine pure_sk (own := ow3) Tryz.func88 (by kernel_rfl) mixed (by kernel_rfl)
    (.sc (true) 138 ([AV.agg [Zi (It.kind x), Zi (It.num x), AV.isl (1) (It.nb x) fun (i x_1 : Nat) => Zb (It.fb x i), AV.isl (4) (It.nl x) (It.row x)]]) (AV.bool true) (.ff (.gc 139 ([]) ([AV.nsl, AV.agg [Zi (It.kind x), Zi (It.num x), AV.isl (1) (It.nb x) fun (i x_1 : Nat) => Zb (It.fb x i), AV.isl (4) (It.nl x) (It.row x)]]) (AV.osl (0 : Nat) (1 : Nat) (0 : Nat) (List.length (It.enc x))) ([ilO IntKind.u8 (It.enc x)]) (.br (decide ((↑(List.length (It.enc x)) : Int) > (16384 : Int))) (.out (AV.tup [AV.nsl, Zi 5]) [] (AV.tup [il IntKind.u8 (It.enc x), Zi 0]) []) (.out (AV.tup [AV.isl (1) (List.length (It.enc x)) fun (r k : Nat) => Zb (List.getD (It.enc x) (r + 0) (0 : Int)), Zi 0]) [] (AV.tup [il IntKind.u8 (It.enc x), Zi 0]) [])))))
    (by kernel_rfl) ?_
  refine k_sc (hv) ?_
  refine k_ff ?_
  refine k_gc (hn) ?_
  refine k_br (fun h3 => ?_) (fun h3 => ?_)
  · have g3 := cnd_dec_t h3
    exact k_out ((by exfalso; omega))
  · have g3 := cnd_dec_f h3
    exact k_out (Ent.of_eq rfl)

theorem ints_c (l : List Int) (hl : l.length ≤ 1000000) : Pure Tryz.prog gl0 89 [il .i64 l] (intsI l).av := by
  refine pure_sk (own := ow0) Tryz.func89 (by kernel_rfl) mixed (by kernel_rfl)
    (.loop ({ x : Nat // x ≤ List.length l }) (fun (x : { x : Nat // x ≤ List.length l }) => mkSt [2, 3, 7, 8, 9] [AV.own (0) (4) (0) (0) (4), AV.own (1) (4) (0) (0) (4), AV.isl (1) (List.length l) fun (i x : Nat) => Zi (List.getD l i (0 : Int)), Zi (↑(List.length l) : Int), Zi (↑(x.1) : Int)] [some { es := 4, n := 1, mu := true, f := Rep.lst [[Zi 0, Zi 0, AV.nsl, AV.nsl]] }, some { es := (4 : Nat), n := (1 : Nat), mu := true, f := Rep.lst [[Zi 3, Zi 0, AV.nsl, AV.osl (2 : Nat) (4 : Nat) (0 : Nat) (x.1)]] }, some { es := (4 : Nat), n := x.1, mu := true, f := Rep.row fun (i : Nat) => It.cells (It.int (List.getD l i (0 : Int))) }]) (fun (x : { x : Nat // x ≤ List.length l }) => List.length l - x.1) (⟨(0 : Nat), Nat.zero_le (List.length l)⟩) ([2, 3, 7, 8, 9]) ([0, 16, 1082]) ([AV.own (0) (4) (0) (0) (4), AV.own (1) (4) (0) (0) (4), AV.isl (1) (List.length l) fun (i x : Nat) => Zi (List.getD l i (0 : Int)), Zi (↑(List.length l) : Int), Zi 0]) ([some { es := 4, n := 1, mu := true, f := Rep.lst [[Zi 0, Zi 0, AV.nsl, AV.nsl]] }, some { es := 4, n := 1, mu := true, f := Rep.lst [[Zi 3, Zi 0, AV.nsl, AV.nsl]] }, some { es := 4, n := 0, mu := true, f := Rep.ty (999999999 : TypeId) (Rep.lst []) }]) (fun x0 => (.br (decide ((↑x0.1 : Int) < (↑(List.length l) : Int))) (.req ((0 : Int) ≤ (↑x0.1 : Int) ∧ (↑x0.1 : Int) < (↑(List.length l) : Int)) (.req ((x0.1 + 1) * 64 ≤ 140737488355328) (.again (Again (0) (fun (x : { x : Nat // x ≤ List.length l }) => mkSt [2, 3, 7, 8, 9] [AV.own (0) (4) (0) (0) (4), AV.own (1) (4) (0) (0) (4), AV.isl (1) (List.length l) fun (i x : Nat) => Zi (List.getD l i (0 : Int)), Zi (↑(List.length l) : Int), Zi (↑(x.1) : Int)] [some { es := 4, n := 1, mu := true, f := Rep.lst [[Zi 0, Zi 0, AV.nsl, AV.nsl]] }, some { es := (4 : Nat), n := (1 : Nat), mu := true, f := Rep.lst [[Zi 3, Zi 0, AV.nsl, AV.osl (2 : Nat) (4 : Nat) (0 : Nat) (x.1)]] }, some { es := (4 : Nat), n := x.1, mu := true, f := Rep.row fun (i : Nat) => It.cells (It.int (List.getD l i (0 : Int))) }]) (fun (x : { x : Nat // x ≤ List.length l }) => List.length l - x.1) x0) ([2, 3, 7, 8, 9]) ([0, 1, 75]) ([AV.own (0) (4) (0) (0) (4), AV.own (1) (4) (0) (0) (4), AV.isl (1) (List.length l) fun (i x : Nat) => Zi (List.getD l i (0 : Int)), Zi (↑(List.length l) : Int), Zi (IntKind.wrap IntKind.i64 ((↑x0.1 : Int) + (1 : Int)))]) ([some { es := 4, n := 1, mu := true, f := Rep.lst [[Zi 0, Zi 0, AV.nsl, AV.nsl]] }, some { es := 4, n := 1, mu := true, f := Rep.lst [[Zi 3, Zi 0, AV.nsl, AV.osl (2) (4) (0) (x0.1 + 1)]] }, some { es := 4, n := x0.1 + 1, mu := true, f := Rep.cat x0.1 (Rep.row fun (i : Nat) => [Zi (It.kind (It.int (List.getD l i (0 : Int)))), Zi (It.num (It.int (List.getD l i (0 : Int)))), AV.isl (1) (0) fun (i_1 x : Nat) => Zb (It.fb (It.int (List.getD l i (0 : Int))) i_1), AV.isl (4) (0) (It.row (It.int (List.getD l i (0 : Int))))]) (Rep.lst [[Zi 1, Zi (List.getD l (Int.toNat (↑(x0.1) : Int)) (0 : Int)), AV.nsl, AV.nsl]]) }])))) (.out (AV.agg [Zi 3, Zi 0, AV.nsl, AV.isl (4) x0.1 fun (r k : Nat) => atL [Zi (It.kind (It.int (List.getD l (r + 0) (0 : Int)))), Zi (It.num (It.int (List.getD l (r + 0) (0 : Int)))), AV.isl (1) (0) fun (i x : Nat) => Zb (It.fb (It.int (List.getD l (r + 0) (0 : Int))) i), AV.isl (4) (0) (It.row (It.int (List.getD l (r + 0) (0 : Int))))] k]) [] (It.av (intsI l)) []))))
    (by kernel_rfl) ?_
  refine k_loop (fun _ hs => hs.le (⟨.refl _, .refl _, .refl _, .refl _, .refl _, trivial⟩) (by repeat' (first | exact trivial | (first | exact ObEnt.refl _ | exact ObEnt.junk | exact ObEnt.zero | exact ObEnt.push rfl rfl | exact ObEnt.pushRow rfl | exact ObEnt.len (by omega) | exact ObEnt.row (by repeat' (first | exact trivial | (first | exact Ent.refl _ | exact inc_ent (by omega) | exact Ent.nil rfl | exact Ent.of_eq (congrArg (AV.osl _ _ _) (by first | omega | (dsimp only; omega))) | exact Ent.of_eq (congrArg (AV.int _) (by first | omega | (dsimp only; omega)))) | refine And.intro ?_ ?_))) | refine And.intro ?_ ?_))) (fun x0 => ?_)
  try (have q0 := x0.2; dsimp only at q0)
  refine k_br (fun h1 => ?_) (fun h1 => ?_)
  · have g1 := cnd_dec_t h1
    refine k_req (by omega) ?_
    refine k_req (by omega) ?_
    exact k_again (⟨x0.1 + 1, by omega⟩) (fun _ hs => hs.le (⟨.refl _, .refl _, .refl _, .refl _, inc_ent (by omega), trivial⟩) (⟨.refl _, .refl _, int_push rfl rfl, trivial⟩)) (by dsimp only; omega)
  · have g1 := cnd_dec_f h1
    exact k_out (ints_out (by omega))

theorem rints_c (l : List Int) (hl : l.length ≤ 1000000) : Pure Tryz.prog gl0 202 [il .i64 l] (intsI l).av := by
  refine pure_sk (own := ow0) Tryz.func202 (by kernel_rfl) mixed (by kernel_rfl)
    (.loop ({ x : Nat // x ≤ List.length l }) (fun (x : { x : Nat // x ≤ List.length l }) => mkSt [0, 2, 3, 4] [AV.isl (1) (List.length l) fun (i x : Nat) => Zi (List.getD l i (0 : Int)), AV.own (0) (4) (0) (0) (4), AV.own (1) (4) (0) (0) (4), Zi (↑(x.1) : Int)] [some { es := 4, n := 1, mu := true, f := Rep.lst [[Zi 0, Zi 0, AV.nsl, AV.nsl]] }, some { es := (4 : Nat), n := (1 : Nat), mu := true, f := Rep.lst [[Zi 3, Zi 0, AV.nsl, AV.osl (2 : Nat) (4 : Nat) (0 : Nat) (x.1)]] }, some { es := (4 : Nat), n := x.1, mu := true, f := Rep.row fun (i : Nat) => It.cells (It.int (List.getD l i (0 : Int))) }]) (fun (x : { x : Nat // x ≤ List.length l }) => List.length l - x.1) (⟨(0 : Nat), Nat.zero_le (List.length l)⟩) ([0, 2, 3, 4]) ([0, 16, 1066]) ([AV.isl (1) (List.length l) fun (i x : Nat) => Zi (List.getD l i (0 : Int)), AV.own (0) (4) (0) (0) (4), AV.own (1) (4) (0) (0) (4), Zi 0]) ([some { es := 4, n := 1, mu := true, f := Rep.lst [[Zi 0, Zi 0, AV.nsl, AV.nsl]] }, some { es := 4, n := 1, mu := true, f := Rep.lst [[Zi 3, Zi 0, AV.nsl, AV.nsl]] }, some { es := 4, n := 0, mu := true, f := Rep.ty (999999999 : TypeId) (Rep.lst []) }]) (fun x0 => (.br (decide ((↑x0.1 : Int) < (↑(List.length l) : Int))) (.req ((0 : Int) ≤ (↑x0.1 : Int) ∧ (↑x0.1 : Int) < (↑(List.length l) : Int)) (.req ((x0.1 + 1) * 64 ≤ 140737488355328) (.again (Again (0) (fun (x : { x : Nat // x ≤ List.length l }) => mkSt [0, 2, 3, 4] [AV.isl (1) (List.length l) fun (i x : Nat) => Zi (List.getD l i (0 : Int)), AV.own (0) (4) (0) (0) (4), AV.own (1) (4) (0) (0) (4), Zi (↑(x.1) : Int)] [some { es := 4, n := 1, mu := true, f := Rep.lst [[Zi 0, Zi 0, AV.nsl, AV.nsl]] }, some { es := (4 : Nat), n := (1 : Nat), mu := true, f := Rep.lst [[Zi 3, Zi 0, AV.nsl, AV.osl (2 : Nat) (4 : Nat) (0 : Nat) (x.1)]] }, some { es := (4 : Nat), n := x.1, mu := true, f := Rep.row fun (i : Nat) => It.cells (It.int (List.getD l i (0 : Int))) }]) (fun (x : { x : Nat // x ≤ List.length l }) => List.length l - x.1) x0) ([0, 2, 3, 4]) ([0, 1, 99]) ([AV.isl (1) (List.length l) fun (i x : Nat) => Zi (List.getD l i (0 : Int)), AV.own (0) (4) (0) (0) (4), AV.own (1) (4) (0) (0) (4), Zi (IntKind.wrap IntKind.i64 ((↑x0.1 : Int) + (1 : Int)))]) ([some { es := 4, n := 1, mu := true, f := Rep.lst [[Zi 0, Zi 0, AV.nsl, AV.nsl]] }, some { es := 4, n := 1, mu := true, f := Rep.lst [[Zi 3, Zi 0, AV.nsl, AV.osl (2) (4) (0) (x0.1 + 1)]] }, some { es := 4, n := x0.1 + 1, mu := true, f := Rep.cat x0.1 (Rep.row fun (i : Nat) => [Zi (It.kind (It.int (List.getD l i (0 : Int)))), Zi (It.num (It.int (List.getD l i (0 : Int)))), AV.isl (1) (0) fun (i_1 x : Nat) => Zb (It.fb (It.int (List.getD l i (0 : Int))) i_1), AV.isl (4) (0) (It.row (It.int (List.getD l i (0 : Int))))]) (Rep.lst [[Zi 1, Zi (List.getD l (Int.toNat (↑(x0.1) : Int)) (0 : Int)), AV.nsl, AV.nsl]]) }])))) (.out (AV.agg [Zi 3, Zi 0, AV.nsl, AV.isl (4) x0.1 fun (r k : Nat) => atL [Zi (It.kind (It.int (List.getD l (r + 0) (0 : Int)))), Zi (It.num (It.int (List.getD l (r + 0) (0 : Int)))), AV.isl (1) (0) fun (i x : Nat) => Zb (It.fb (It.int (List.getD l (r + 0) (0 : Int))) i), AV.isl (4) (0) (It.row (It.int (List.getD l (r + 0) (0 : Int))))] k]) [] (It.av (intsI l)) []))))
    (by kernel_rfl) ?_
  refine k_loop (fun _ hs => hs.le (⟨.refl _, .refl _, .refl _, .refl _, trivial⟩) (by repeat' (first | exact trivial | (first | exact ObEnt.refl _ | exact ObEnt.junk | exact ObEnt.zero | exact ObEnt.push rfl rfl | exact ObEnt.pushRow rfl | exact ObEnt.len (by omega) | exact ObEnt.row (by repeat' (first | exact trivial | (first | exact Ent.refl _ | exact inc_ent (by omega) | exact Ent.nil rfl | exact Ent.of_eq (congrArg (AV.osl _ _ _) (by first | omega | (dsimp only; omega))) | exact Ent.of_eq (congrArg (AV.int _) (by first | omega | (dsimp only; omega)))) | refine And.intro ?_ ?_))) | refine And.intro ?_ ?_))) (fun x0 => ?_)
  try (have q0 := x0.2; dsimp only at q0)
  refine k_br (fun h1 => ?_) (fun h1 => ?_)
  · have g1 := cnd_dec_t h1
    refine k_req (by omega) ?_
    refine k_req (by omega) ?_
    exact k_again (⟨x0.1 + 1, by omega⟩) (fun _ hs => hs.le (⟨.refl _, .refl _, .refl _, inc_ent (by omega), trivial⟩) (⟨.refl _, .refl _, int_push rfl rfl, trivial⟩)) (by dsimp only; omega)
  · have g1 := cnd_dec_f h1
    exact k_out (ints_out (by omega))

theorem ints_2 (a b : Int) : Pure Tryz.prog gl0 89 [.isl 1 2 fun r k => atL (List.getD [[.int .i64 a], [.int .i64 b]] r []) k] (intsI [a, b]).av :=
  (ints_c [a, b] (by simp)).via ⟨il_rows rfl rfl, trivial⟩
theorem rints_2 (a b : Int) : Pure Tryz.prog gl0 202 [.isl 1 2 fun r k => atL (List.getD [[.int .i64 a], [.int .i64 b]] r []) k] (intsI [a, b]).av :=
  (rints_c [a, b] (by simp)).via ⟨il_rows rfl rfl, trivial⟩

theorem rbytes31_c (f : Nat → Int) : Pure Tryz.prog gl0 120 [.agg (u8c f)] (It.byt 32 f).av := by
  refine pure_sk (own := ow0) Tryz.func120 (by kernel_rfl) mixed (by kernel_rfl)
    (.loop ({ x : Nat // x ≤ (32 : Nat) }) (fun (x : { x : Nat // x ≤ (32 : Nat) }) => mkSt [1, 2, 3, 4] [AV.own (0) (32) (0) (0) (32), AV.own (1) (4) (0) (0) (4), AV.own (2) (4) (0) (0) (4), Zi (↑(x.1) : Int)] [some { es := 32, n := 1, mu := true, f := Rep.lst [u8c f] }, some { es := 4, n := 1, mu := true, f := Rep.lst [[Zi 0, Zi 0, AV.nsl, AV.nsl]] }, some { es := (4 : Nat), n := (1 : Nat), mu := true, f := Rep.lst [[Zi 2, Zi 0, AV.osl (3 : Nat) (1 : Nat) (0 : Nat) (x.1), AV.nsl]] }, some { es := (1 : Nat), n := x.1, mu := true, f := Rep.fn fun (i x : Nat) => Zb (f i) }]) (fun (x : { x : Nat // x ≤ (32 : Nat) }) => (32 : Nat) - x.1) (⟨(0 : Nat), Nat.zero_le (32 : Nat)⟩) ([1, 2, 3, 4]) ([0, 8, 24, 307]) ([AV.own (0) (32) (0) (0) (32), AV.own (1) (4) (0) (0) (4), AV.own (2) (4) (0) (0) (4), Zi 0]) ([some { es := 32, n := 1, mu := true, f := Rep.lst [u8c f] }, some { es := 4, n := 1, mu := true, f := Rep.lst [[Zi 0, Zi 0, AV.nsl, AV.nsl]] }, some { es := 4, n := 1, mu := true, f := Rep.lst [[Zi 2, Zi 0, AV.nsl, AV.nsl]] }, some { es := 1, n := 0, mu := true, f := Rep.ty (999999999 : TypeId) (Rep.lst []) }]) (fun x0 => (.br (decide ((↑x0.1 : Int) < (32 : Int))) (.req ((0 : Int) ≤ (↑x0.1 : Int) ∧ (↑x0.1 : Int) < (↑(32) : Int)) (.req ((x0.1 + 1) * 1 ≤ 140737488355328) (.again (Again (0) (fun (x : { x : Nat // x ≤ (32 : Nat) }) => mkSt [1, 2, 3, 4] [AV.own (0) (32) (0) (0) (32), AV.own (1) (4) (0) (0) (4), AV.own (2) (4) (0) (0) (4), Zi (↑(x.1) : Int)] [some { es := 32, n := 1, mu := true, f := Rep.lst [u8c f] }, some { es := 4, n := 1, mu := true, f := Rep.lst [[Zi 0, Zi 0, AV.nsl, AV.nsl]] }, some { es := (4 : Nat), n := (1 : Nat), mu := true, f := Rep.lst [[Zi 2, Zi 0, AV.osl (3 : Nat) (1 : Nat) (0 : Nat) (x.1), AV.nsl]] }, some { es := (1 : Nat), n := x.1, mu := true, f := Rep.fn fun (i x : Nat) => Zb (f i) }]) (fun (x : { x : Nat // x ≤ (32 : Nat) }) => (32 : Nat) - x.1) x0) ([1, 2, 3, 4]) ([0, 1, 2, 68]) ([AV.own (0) (32) (0) (0) (32), AV.own (1) (4) (0) (0) (4), AV.own (2) (4) (0) (0) (4), Zi (IntKind.wrap IntKind.i64 ((↑x0.1 : Int) + (1 : Int)))]) ([some { es := 32, n := 1, mu := true, f := Rep.lst [u8c f] }, some { es := 4, n := 1, mu := true, f := Rep.lst [[Zi 0, Zi 0, AV.nsl, AV.nsl]] }, some { es := 4, n := 1, mu := true, f := Rep.lst [[Zi 2, Zi 0, AV.osl (3) (1) (0) (x0.1 + 1), AV.nsl]] }, some { es := 1, n := x0.1 + 1, mu := true, f := Rep.fn fun (i j : Nat) => Zb (bif Nat.blt i x0.1 then f i else intOfAV (atL [Zb (intOfAV (Rep.at (Ob.f (Ob.seen { es := 32, n := 1, mu := true, f := Rep.lst [u8c f] })) (0) (0 + Int.toNat (↑(x0.1) : Int))))] j)) }])))) (.out (AV.agg [Zi 2, Zi 0, AV.isl (1) x0.1 fun (r k : Nat) => Zb (f (r + 0)), AV.nsl]) [] (It.av (It.byt (32 : Nat) f)) []))))
    (by kernel_rfl) ?_
  refine k_loop (fun _ hs => hs.le (⟨.refl _, .refl _, .refl _, .refl _, trivial⟩) (by repeat' (first | exact trivial | (first | exact ObEnt.refl _ | exact ObEnt.junk | exact ObEnt.zero | exact ObEnt.push rfl rfl | exact ObEnt.pushRow rfl | exact ObEnt.len (by omega) | exact ObEnt.row (by repeat' (first | exact trivial | (first | exact Ent.refl _ | exact inc_ent (by omega) | exact Ent.nil rfl | exact Ent.of_eq (congrArg (AV.osl _ _ _) (by first | omega | (dsimp only; omega))) | exact Ent.of_eq (congrArg (AV.int _) (by first | omega | (dsimp only; omega)))) | refine And.intro ?_ ?_))) | refine And.intro ?_ ?_))) (fun x0 => ?_)
  try (have q0 := x0.2; dsimp only at q0)
  refine k_br (fun h1 => ?_) (fun h1 => ?_)
  · have g1 := cnd_dec_t h1
    refine k_req (by omega) ?_
    refine k_req (by omega) ?_
    exact k_again (⟨x0.1 + 1, by omega⟩) (fun _ hs => hs.le (⟨.refl _, .refl _, .refl _, inc_ent (by omega), trivial⟩) (⟨.refl _, .refl _, .refl _, ObEnt.pushF (F := f) rfl (by show intOfAV (atL (u8c f) (0 + x0.1)) = f x0.1; rw [Nat.zero_add, u8c_at (by omega)]), trivial⟩)) (by dsimp only; omega)
  · have g1 := cnd_dec_f h1
    exact k_out (byts_out (by omega))

end Go.Proofs.YtbmdmoknnlhdoaaGreatDoor.Z

namespace Go.Proofs.YtbmdmoknnlhdoaaGreatDoor.O
open Go Go.Am Go.Sp Go.Lib Go.RowKit Go.Proofs.YtbmdmoknnlhdoaaGreatDoor.Z
set_option maxRecDepth 100000

theorem mixed : Tryz.prog.follows .mixedOrders = true := by kernel_rfl
def ow0 : FuncId → Option (List Bool) := fun _ => none
abbrev GP := Unit
def stepW : List Str := [[119, 105, 116, 104, 100, 114, 97, 119], [112, 97, 121], [116, 114, 97, 110, 115, 102, 101, 114], [100, 101, 112, 111, 115, 105, 116], [107, 101, 101, 112], [116, 114, 97, 99, 101], [99, 108, 101, 97, 114], [116, 105, 99, 107]]
def glP : Globs := fun g => bif Nat.beq g 0 then some (8, fun j => .str (bs (stepW.getD j []))) else bif Nat.beq g 7 then some (20, fun j => .int .u64 (pow10Tab.getD j 0)) else none
def gl0 (_ : GP) : Globs := glU glJ glP
theorem gl_pow (m : GP) : gl0 m 7 = some (20, fun j => .int .u64 (pow10Tab.getD j 0)) := rfl
theorem upJ {m : GP} {f : FuncId} {args : List AV} {r : AV} (h : Am.Pure Tryz.prog glJ f args r) : Am.Pure Tryz.prog (gl0 m) f args r := up_l h
def joinK (ws : List Str) : Str := Lib.join ws [44, 32]

theorem itoa_c (m : GP) (n : Int) (hn : -9223372036854775808 ≤ n ∧ n ≤ 9223372036854775807) : Pure Tryz.prog (gl0 m) 35 [.int .i64 n] (.str (bs (itoa n))) := by
  refine pure_of ⟨_, _, Tryz.func35, rfl, by kernel_rfl⟩ fun β w vs hf hg ha => ?_
  obtain ⟨u, rfl, h1⟩ := rels1 ha
  rw [rel_int_inv h1]
  refine (Tryz.strconv_Itoa n hn.1 hn.2 w (glob_tab (by kernel_rfl) (hg _ _ _ (gl_pow m)))).mono fun e w' hh => ?_
  obtain ⟨he, k, os, rfl⟩ := hh
  exact ⟨_, he, ⟨rfl, rfl, rfl, by simp [Sort.grow], fun k hk => (Sort.heap_grow_old (w.drewN k) os hk)⟩, .str⟩

theorem joinC_c (m : GP) (ws : List Str) (h : (joinK ws).length ≤ 140737488355328) (hn : ws.length ≤ 140737488355328) : Pure Tryz.prog (gl0 m) 70 [.isl 1 ws.length fun i _ => .str (bs (ws.getD i [])), .str (bs [44, 32])] (.str (bs (joinK ws))) := by
  refine pure_of ⟨_, _, Tryz.func70, rfl, by kernel_rfl⟩ fun β w vs hf hg ha => ?_
  obtain ⟨u, v, rfl, h1, h2⟩ := rels2 ha
  obtain ⟨a, cap, rfl, hcap, _, hk⟩ := rel_isl_inv h1
  rw [rel_str_inv h2]
  cases ws with
  | nil =>
    refine (Tryz.strings_Join_none a cap (bs [44, 32]) w).mono fun e w' hh => ?_
    obtain ⟨he, rfl⟩ := hh
    exact ⟨_, he, Below.refl _ _, .str⟩
  | cons x xs =>
    obtain ⟨b, off, vals, rfl, _, _, hc, hr, _⟩ := hk (Nat.succ_pos _)
    have hcell : ∀ (j : Nat) y, ((x :: xs).map bs)[j]? = some y → w.cell? ⟨b, off + j, none⟩ = some (.string y) := fun j y hj => by
      rw [List.getElem?_map, Option.map_eq_some_iff] at hj
      obtain ⟨z, hz, rfl⟩ := hj
      have hlt := (List.getElem?_eq_some_iff.1 hz).1
      have := hc j 0 hlt (by decide)
      rw [Nat.mul_one, Nat.add_zero] at this
      rw [this, rel_str_inv (hr j 0 hlt (by decide)), List.getD_eq_getElem?_getD, hz]; rfl
    have e1 : ((x :: xs).map bs).map (·.data.toList) = x :: xs := by rw [List.map_map]; exact List.map_id _
    have := Tryz.strings_Join b off cap ((x :: xs).map bs) (bs [44, 32]) w hcell (lt_of_cell? (hcell 0 _ rfl)) (by simpa using hn) (by simpa using hcap) (by rw [e1]; exact h)
    rw [e1, List.length_map] at this
    refine this.mono fun e w' hh => ?_
    obtain ⟨he, hb⟩ := hh
    exact ⟨_, he, hb, .str⟩

end Go.Proofs.YtbmdmoknnlhdoaaGreatDoor.O

namespace Go.Proofs.YtbmdmoknnlhdoaaGreatDoor.O
open Go Go.Am Go.Sp Go.Lib Go.RowKit Go.Shelf
set_option maxRecDepth 100000

def bld_ren : Go.Shelf.Ren := ⟨fun | 156 => 70 | 165 => 115 | 166 => 65 | 167 => 33 | 169 => 36 | 240 => 69 | 241 => 158 | 276 => 114 | 277 => 196 | n => n, fun | 31 => 47 | 9 => 9 | 3 => 3 | 4 => 4 | 0 => 0 | 20 => 20 | 72 => 95 | 76 => 113 | 70 => 92 | 37 => 93 | 75 => 97 | 127 => 131 | 164 => 176 | 5 => 5 | 80 => 101 | n => n, fun | n => n⟩
theorem bld_lays : Lays.n167 Tryz.prog bld_ren := {
  mixed := mixed
  f167 := Tryz.func33.trans (congrArg some (by kernel_rfl))
  f240 := Tryz.func69.trans (congrArg some (by kernel_rfl))
  f276 := Tryz.func114.trans (congrArg some (by kernel_rfl))
  t0 := Tryz.underlying0
  a0 := Tryz.isAgg0
  z0 := Tryz.sizeOf0
  v0 := Tryz.zeroValue0
  t4 := Tryz.underlying4
  a4 := Tryz.isAgg4
  z4 := Tryz.sizeOf4
  v4 := Tryz.zeroValue4
  t5 := Tryz.underlying5
  a5 := Tryz.isAgg5
  z5 := Tryz.sizeOf5
  v5 := Tryz.zeroValue5
  t9 := Tryz.underlying9
  a9 := Tryz.isAgg9
  z9 := Tryz.sizeOf9
  v9 := Tryz.zeroValue9
  t20 := Tryz.underlying20
  a20 := Tryz.isAgg20
  z20 := Tryz.sizeOf20
  v20 := Tryz.zeroValue20
  t37 := Tryz.underlying93
  a37 := Tryz.isAgg93
  z37 := Tryz.sizeOf93
  v37 := Tryz.zeroValue93
  t70 := Tryz.underlying92
  a70 := Tryz.isAgg92
  z70 := Tryz.sizeOf92
  v70 := Tryz.zeroValue92
  t72 := Tryz.underlying95
  a72 := Tryz.isAgg95
  z72 := Tryz.sizeOf95
  v72 := Tryz.zeroValue95
  t75 := Tryz.underlying97
  a75 := Tryz.isAgg97
  z75 := Tryz.sizeOf97
  v75 := Tryz.zeroValue97
  t164 := Tryz.underlying176
  a164 := Tryz.isAgg176
  z164 := Tryz.sizeOf176
  v164 := Tryz.zeroValue176 }
theorem bld_extra : Builder.Extra Tryz.prog bld_ren := {
  sizeBuilder := by kernel_rfl
  liesBuilder := by kernel_rfl
  t5 := Tryz.underlying5
  a5 := Tryz.isAgg5
  z5 := Tryz.sizeOf5
  v5 := Tryz.zeroValue5
  infoByte := by kernel_rfl
  cellsByte := by kernel_rfl
  sizeByte := by kernel_rfl
  neB5 := by decide }
theorem wb_k (B b : Nat) (bs : List Value) (c : Int) (w : World) (h : IsBuilderF 95 5 B b bs w) (hlen : bs.length + 1 ≤ 140737488355328) (hBw : B ≤ w.heap.size) :
    Calls Tryz.prog 33 #[.pointer (some ⟨b, 0, none⟩), .int .u8 c] w fun e w' => e = .returned .nilIface ∧ (BuilderAtF 95 5 B b (.pointer (some ⟨b, 0, none⟩)) (bs ++ [.int .u8 c]) w' ∧ Below B w w' ∧ OthersKept 5 (some b) w w') :=
  Any.Builder_WriteByte_k bld_lays bld_extra B b bs c w h hlen hBw
theorem ws_k (B b : Nat) (bs : List Value) (s : ByteArray) (w : World) (h : IsBuilderF 95 5 B b bs w) (hlen : bs.length + s.size ≤ 140737488355328) (hBw : B ≤ w.heap.size) :
    Calls Tryz.prog 65 #[.pointer (some ⟨b, 0, none⟩), .string s] w fun e w' => e = .returned (.tuple #[.int .i64 s.size, .nilIface]) ∧ (BuilderAtF 95 5 B b (.pointer (some ⟨b, 0, none⟩)) (bs ++ strCells s) w' ∧ Below B w w' ∧ OthersKept 5 (some b) w w') :=
  Any.Builder_WriteString_k { Tryz.lays156 with } Tryz.Builder_Extra_156 B b bs s w h hlen hBw
theorem st_k (B b : Nat) (l : List UInt8) (w : World) (h : IsBuilderF 95 5 B b (Lib.byteCells l) w) (hBw : B ≤ w.heap.size) :
    Calls Tryz.prog 36 #[.pointer (some ⟨b, 0, none⟩)] w fun e w' => e = .returned (.string ⟨l.toArray⟩) ∧ (IsBuilderF 95 5 B b (Lib.byteCells l) w' ∧ Below B w w' ∧ OthersKept 5 (some b) w w') :=
  Any.Builder_String_any_k { Tryz.lays156 with } Tryz.Builder_Extra_156 B b l w h hBw


inductive Part where
  | s (x : Str)
  | n (x : Int)
deriving Inhabited
def Part.v : Part → Value
  | .s x => .iface 9 (.string (bs x))
  | .n x => .iface 3 (.int .i64 x)
def Part.t : Part → Str
  | .s x => x
  | .n x => itoa x
def Part.ok : Part → Prop
  | .s x => x.length ≤ 100000
  | .n x => -9223372036854775808 ≤ x ∧ x ≤ 9223372036854775807
def flatP (l : List Part) (k : Nat) : Str := (l.take k).flatMap Part.t
theorem flat_s {l : List Part} {k : Nat} {p : Part} (h : l[k]? = some p) : flatP l (k + 1) = flatP l k ++ p.t := by
  unfold flatP
  rw [List.take_add_one, h, List.flatMap_append]; simp
theorem itoa_le (n : Int) (hn : -9223372036854775808 ≤ n ∧ n ≤ 9223372036854775807) : (itoa n).length ≤ 100000 := Nat.le_trans (itoa_length_le n hn.1 hn.2) (by decide)
theorem part_le {p : Part} (h : p.ok) : p.t.length ≤ 100000 := by
  cases p with
  | s x => exact h
  | n x => exact itoa_le x h
theorem flat_le {l : List Part} (h : ∀ p ∈ l, p.ok) : ∀ k, k ≤ l.length → (flatP l k).length ≤ k * 100000
  | 0, _ => Nat.le_refl _
  | k + 1, hk => by
    have e : l[k]? = some l[k] := List.getElem?_eq_getElem (by omega)
    have h1 := flat_le h k (by omega)
    have h2 := part_le (h l[k] (List.getElem_mem (by omega)))
    rw [flat_s e, List.length_append]; omega
theorem write_k (B : Nat) (wr : World) (A F A' : Str) (hA : A' = A ++ F) (hl : A.length + F.length ≤ 140737488355328)
    (HB : IsBuilderF 95 5 B B (Lib.byteCells A) wr) (HW : B ≤ wr.heap.size) :
    Calls Tryz.prog 65 #[.pointer (some ⟨B, 0, none⟩), .string (bs F)] wr fun e w3 => e = .returned (.tuple #[.int .i64 (bs F).size, .nilIface]) ∧ IsBuilderF 95 5 B B (Lib.byteCells A') w3 ∧ Below B wr w3 := by
  refine (ws_k B B (Lib.byteCells A) (bs F) wr HB (by rw [Lib.byteCells_length, bs_size]; exact hl) HW).mono ?_
  rintro e w3 ⟨he, h3, hb3, _⟩
  have e3 : Lib.byteCells A ++ strCells (bs F) = Lib.byteCells A' := by rw [hA, Lib.byteCells_append, Lib.strCells_eq, bs_data]
  rw [e3] at h3
  exact ⟨he, .inr h3, hb3⟩

theorem bat_below {T e : TypeId} {B b : Nat} {p : Value} {bs : List Value} {W W' : World} (h : BuilderAtF T e B b p bs W) (hb : Below W.heap.size W W') : BuilderAtF T e B b p bs W' := by
  have hlt := h.lt
  obtain ⟨hB, v, hv, hown, hne⟩ := h
  exact ⟨hB, v, (hb.block b hlt).trans hv, hown.kept (row := none) ⟨hb.os, hb.tape, hb.output, hb.size, fun k hk _ => hb.block k hk⟩ (Classical.em _), hne⟩
theorem isb_below {T e : TypeId} {B b : Nat} {bs : List Value} {W W' : World} (h : IsBuilderF T e B b bs W) (hb : Below W.heap.size W W') : IsBuilderF T e B b bs W' :=
  h.elim (fun x => .inl (bat_below x hb)) (fun x => .inr (bat_below x hb))
theorem ta_str (v : Value) (w : World) : (Instr.typeAssert (.iface 9 v) 20 9 true).run Tryz.prog w = .ok (.tuple #[v, .bool true]) w := by
  simp only [Instr.typeAssert, Sem.run_bind, run_underlying Tryz.underlying9, Result.andThen_ok, Sem.run_ite, if_pos, if_true, Sem.run_pure]
theorem ta_no (v : Value) (w : World) : (Instr.typeAssert (.iface 3 v) 20 9 true).run Tryz.prog w = .ok (.tuple #[.string ⟨#[]⟩, .bool false]) w := by
  simp only [Instr.typeAssert, Sem.run_bind, run_underlying Tryz.underlying9, Result.andThen_ok, Sem.run_ite, Sem.run_pure]
  rw [if_neg (by decide)]
  simp only [if_true, Sem.run_bind, Tryz.zeroValue9, Result.andThen_ok, Sem.run_pure]
theorem ta_int (v : Value) (w : World) : (Instr.typeAssert (.iface 3 v) 20 3 true).run Tryz.prog w = .ok (.tuple #[v, .bool true]) w := by
  simp only [Instr.typeAssert, Sem.run_bind, run_underlying Tryz.underlying3, Result.andThen_ok, Sem.run_ite, if_pos, if_true, Sem.run_pure]

set_option maxHeartbeats 400000 in
theorem line_w (w : World) (l : List Part) (b off cap : Nat) (hc : ∀ j p, l[j]? = some p → w.cell? ⟨b, off + j, none⟩ = some p.v) (hb : l = [] ∨ b < w.heap.size) (hok : ∀ p ∈ l, p.ok) (hl : l.length ≤ 1000)
    (ht : TabIs Tryz.prog w "internal/strconv.uint64pow10" .u64 pow10Tab) :
    Calls Tryz.prog 28 #[.slice (some ⟨b, off, none⟩) l.length cap] w fun e w' => e = .returned (.string (bs (flatP l l.length ++ [10]))) ∧ Below w.heap.size w w' := by
  have HT := Any.hidJ (tabBelow_of_tabIs ht)
  go_enter Tryz.func28, Tryz.ntmps28
  go_wp2_with fail
  have H0 : Hid (IsBuilderF 95 5 w.heap.size w.heap.size (Lib.byteCells (flatP l 0)) (w.alloc (.cells #[.pointer none, .slice none 0 0] 95))) := Any.hidJ (IsBuilderF.of (fresh_isBuilder 95 5 w))
  have HW0 : Hid (Below w.heap.size w (w.alloc (.cells #[.pointer none, .slice none 0 0] 95))) := Any.hidJ ((Below.refl _ _).alloc (Nat.le_refl _) _)
  generalize w.alloc (.cells #[.pointer none, .slice none 0 0] 95) = w0 at H0 HW0 ⊢
  go_wp2_with fail
  go_loopw [10] (fun i wr => ∃ k : Nat, k ≤ l.length ∧ i = .int .i64 k ∧ Hid (IsBuilderF 95 5 w.heap.size w.heap.size (Lib.byteCells (flatP l k)) wr) ∧ Hid (Below w.heap.size w wr)) (fun i _ => l.length - (RowKit.intOf i).toNat)
  case atStart => exact ⟨0, Nat.zero_le _, rfl, H0, HW0⟩
  case round =>
    obtain ⟨k, hk, rfl, HB, HW⟩ := hrel
    by_cases hk9 : k < l.length
    · have hp : l[k]? = some l[k] := List.getElem?_eq_getElem hk9
      have hbl : b < w.heap.size := by
        rcases hb with rfl | h
        · exact absurd hk9 (Nat.not_lt_zero k)
        · exact h
      have hcc : wr.cell? ⟨b, off + k, none⟩ = some l[k].v := by
        have h := hc k l[k] hp
        unfold World.cell? at h ⊢
        rwa [HW.out.block b hbl]
      have hpo := hok l[k] (List.getElem_mem hk9)
      have hfl := flat_le hok k hk
      have hpl := part_le hpo
      have hs := flat_s hp
      generalize l[k] = p at *
      cases p with
      | s x =>
        replace hcc : wr.cell? ⟨b, off + k, none⟩ = some (.iface 9 (.string (bs x))) := hcc
        have hs : flatP l (k + 1) = flatP l k ++ x := hs
        have hpl : x.length ≤ 100000 := hpl
        go_wp2_with fail
        rw [ta_str]
        go_wp2_with fail
        refine (write_k w.heap.size wr (flatP l k) x (flatP l (k + 1)) hs (by omega) HB.out HW.out.size).mono ?_
        rintro e w3 ⟨rfl, h3, hb3⟩
        have H3 := Any.hidJ h3
        have HW3 := Any.hidJ (HW.out.trans hb3)
        clear h3 hb3
        go_wp2
        exact ⟨⟨k + 1, by omega, by go_num, H3, HW3⟩, by simp [RowKit.intOf]; omega⟩
      | n x =>
        replace hcc : wr.cell? ⟨b, off + k, none⟩ = some (.iface 3 (.int .i64 x)) := hcc
        have hs : flatP l (k + 1) = flatP l k ++ itoa x := hs
        have hpl : (itoa x).length ≤ 100000 := hpl
        go_wp2_with fail
        rw [ta_no]
        go_wp2_with fail
        rw [ta_int]
        go_wp2_with fail
        refine (Tryz.strconv_Itoa x hpo.1 hpo.2 wr (HT.out wr HW.out)).mono ?_
        rintro e w2 ⟨rfl, q, os, rfl⟩
        have Hb2 : Hid (Below w.heap.size wr (Sort.grow (wr.drewN q) os)) := Any.hidJ ⟨rfl, rfl, rfl, by simp [Sort.grow], fun k hk => (Sort.heap_grow_old (wr.drewN q) os (Nat.lt_of_lt_of_le hk HW.out.size))⟩
        have HB2 : Hid (IsBuilderF 95 5 w.heap.size w.heap.size (Lib.byteCells (flatP l k)) (Sort.grow (wr.drewN q) os)) := Any.hidJ (isb_below HB.out ⟨rfl, rfl, rfl, by simp [Sort.grow], fun k hk => (Sort.heap_grow_old (wr.drewN q) os hk)⟩)
        generalize Sort.grow (wr.drewN q) os = w2 at *
        go_wp2_with fail
        refine (write_k w.heap.size w2 (flatP l k) (itoa x) (flatP l (k + 1)) hs (by omega) HB2.out (HW.out.trans Hb2.out).size).mono ?_
        rintro e w3 ⟨rfl, h3, hb3⟩
        have H3 := Any.hidJ h3
        have HW3 := Any.hidJ ((HW.out.trans Hb2.out).trans hb3)
        clear h3 hb3
        go_wp2
        exact ⟨⟨k + 1, by omega, by go_num, H3, HW3⟩, by simp [RowKit.intOf]; omega⟩
    · obtain rfl : k = l.length := by omega
      have hfl := flat_le hok l.length (Nat.le_refl _)
      go_wp2_with fail
      refine (wb_k w.heap.size w.heap.size (Lib.byteCells (flatP l l.length)) 10 wr HB.out (by rw [Lib.byteCells_length]; omega) HW.out.size).mono ?_
      rintro e w3 ⟨rfl, h3, hb3, _⟩
      have e3 : Lib.byteCells (flatP l l.length) ++ [.int .u8 10] = Lib.byteCells (flatP l l.length ++ [10]) := by rw [Lib.byteCells_append]; rfl
      rw [e3] at h3
      have H3 := Any.hidJ (show IsBuilderF 95 5 w.heap.size w.heap.size (Lib.byteCells (flatP l l.length ++ [10])) w3 from .inr h3)
      have HW3 := Any.hidJ (HW.out.trans hb3)
      clear h3 hb3
      go_wp2_with fail
      refine (st_k w.heap.size w.heap.size (flatP l l.length ++ [10]) w3 H3.out HW3.out.size).mono ?_
      rintro e w5 ⟨rfl, _, hb5, _⟩
      have Hb5 := Any.hidJ (HW3.out.trans hb5)
      clear hb5
      go_wp2
      go_ret
      exact ⟨rfl, Hb5.out⟩


def Part.a : Part → AV
  | .s x => .ifc 9 (.str (bs x))
  | .n x => .ifc 3 (.int .i64 x)
theorem part_v {β : Book} {w : World} {p : Part} {v : Value} (h : Rel β w p.a v) : v = p.v := by
  cases p with
  | s x => cases h with | ifc h => rw [rel_str_inv h]; rfl
  | n x => cases h with | ifc h => rw [rel_int_inv h]; rfl
theorem line_c (m : GP) (l : List Part) (hok : ∀ p ∈ l, p.ok) (hl : l.length ≤ 1000) (hz : l ≠ []) : Pure Tryz.prog (gl0 m) 28 [.isl 1 l.length fun i _ => (l.getD i default).a] (.str (bs (flatP l l.length ++ [10]))) := by
  refine pure_of ⟨_, _, Tryz.func28, rfl, by kernel_rfl⟩ fun β w vs hf hg ha => ?_
  obtain ⟨u, rfl, h1⟩ := rels1 ha
  obtain ⟨a, cap, rfl, hcap, _, hk⟩ := rel_isl_inv h1
  have ht : TabIs Tryz.prog w "internal/strconv.uint64pow10" .u64 pow10Tab := glob_tab (by kernel_rfl) (hg _ _ _ (gl_pow m))
  obtain ⟨b, off, vals, rfl, _, hbl, hc, hr, _⟩ := hk (List.length_pos_iff.2 hz)
  · refine (line_w w l b off cap (fun j p hp => ?_) (.inr ?_) hok hl ht).mono fun e w' hh => ?_
    · have hlt := (List.getElem?_eq_some_iff.1 hp).1
      have h := hc j 0 hlt (by decide)
      rw [Nat.mul_one, Nat.add_zero] at h
      rw [h]
      have hr := hr j 0 hlt (by decide)
      rw [List.getD_eq_getElem?_getD, hp] at hr
      rw [part_v hr]; rfl
    · have h := hc 0 0 (List.length_pos_iff.2 hz) (by decide)
      exact World.block_lt_of_cell? _ _ h
    · obtain ⟨he, hb⟩ := hh
      exact ⟨_, he, hb, .str⟩

end Go.Proofs.YtbmdmoknnlhdoaaGreatDoor.O

namespace Go.Sp
open Go Go.Am

structure Sup where
  bank : Int
  epoch : Int
  denom : Int
  issued : Int
  ret : Int
  dbl : Int
  exp : Int
deriving Inhabited
def Sup.cells (s : Sup) : List AV := [.int .i64 s.bank, .int .i64 s.epoch, .int .i64 s.denom, .int .i64 s.issued, .int .i64 s.ret, .int .i64 s.dbl, .int .i64 s.exp]
def I64 (n : Int) : Prop := -9223372036854775808 ≤ n ∧ n ≤ 9223372036854775807
def Sup.R (s : Sup) : Prop := I64 s.bank ∧ I64 s.epoch ∧ I64 s.denom ∧ I64 s.issued ∧ I64 s.ret ∧ I64 s.dbl ∧ I64 s.exp
def amtB (n : Int) : Bool := decide (0 ≤ n) && decide (n ≤ 4503599627370496)
def validS (s : Sup) : Bool := decide (0 ≤ s.bank) && decide (s.bank < 8) && decide (0 ≤ s.epoch) && decide (s.epoch ≤ 1000000) && decide (0 ≤ s.denom) && decide (s.denom ≤ 16) && amtB s.issued && amtB s.ret && amtB s.dbl && amtB s.exp && decide (s.dbl ≤ s.ret)
def cmpI (a b : Int) : Int := if a < b then -1 else if b < a then 1 else 0
def cmpS (a b : Sup) : Int := if cmpI a.bank b.bank ≠ 0 then cmpI a.bank b.bank else if cmpI a.epoch b.epoch ≠ 0 then cmpI a.epoch b.epoch else cmpI a.denom b.denom
def keyB (a b : Sup) : Bool := decide (a.bank = b.bank) && decide (a.epoch = b.epoch) && decide (a.denom = b.denom)
def supA (n : Nat) (f : Nat → Sup) : AV := .isl 7 n fun i j => atL (Sup.cells (f i)) j
def leftS (s : Sup) : Int := IntKind.wrap .i64 (IntKind.wrap .i64 (IntKind.wrap .i64 (s.issued - s.ret) + s.dbl) - s.exp)
end Go.Sp
namespace Go.Sp
open Go Go.Am
def listB (n : Nat) (f : Nat → Sup) : Bool := Nat.ble n 1000 && (List.range n).all fun i => validS (f i) && (List.range i).all fun k => !keyB (f i) (f k)
theorem list_long {n : Nat} {f : Nat → Sup} (h : (n : Int) > 1000) : listB n f = false := by
  unfold listB
  have : Nat.ble n 1000 = false := by
    cases e : Nat.ble n 1000 with
    | false => rfl
    | true => have := Nat.le_of_ble_eq_true e; omega
  rw [this, Bool.false_and]
theorem list_inv {n : Nat} {f : Nat → Sup} {i : Nat} (hi : i < n) (h : validS (f i) = false) : listB n f = false := by
  unfold listB
  have : ((List.range n).all fun i => validS (f i) && (List.range i).all fun k => !keyB (f i) (f k)) = false := List.all_eq_false.2 ⟨i, List.mem_range.2 hi, by simp [h]⟩
  rw [this, Bool.and_false]
theorem list_two {n : Nat} {f : Nat → Sup} {i k : Nat} (hi : i < n) (hk : k < i) (h : keyB (f i) (f k) = true) : listB n f = false := by
  unfold listB
  have : ((List.range n).all fun i => validS (f i) && (List.range i).all fun k => !keyB (f i) (f k)) = false := List.all_eq_false.2 ⟨i, List.mem_range.2 hi, by
    have : ((List.range i).all fun k => !keyB (f i) (f k)) = false := List.all_eq_false.2 ⟨k, List.mem_range.2 hk, by simp [h]⟩
    simp [this]⟩
  rw [this, Bool.and_false]
theorem list_ok {n : Nat} {f : Nat → Sup} (hn : ¬ (n : Int) > 1000) (h : ∀ i, i < n → validS (f i) = true ∧ ∀ k, k < i → keyB (f i) (f k) = false) : listB n f = true := by
  unfold listB
  rw [Nat.ble_eq_true_of_le (by omega), Bool.true_and, List.all_eq_true]
  intro i hi
  obtain ⟨h1, h2⟩ := h i (List.mem_range.1 hi)
  rw [h1, Bool.true_and, List.all_eq_true]
  intro k hk
  rw [h2 k (List.mem_range.1 hk)]; rfl
theorem list_spec {n : Nat} {f : Nat → Sup} (h : listB n f = true) : n ≤ 1000 ∧ ∀ i, i < n → validS (f i) = true ∧ ∀ k, k < i → keyB (f i) (f k) = false := by
  unfold listB at h
  rw [Bool.and_eq_true, List.all_eq_true] at h
  refine ⟨Nat.le_of_ble_eq_true h.1, fun i hi => ?_⟩
  have := h.2 i (List.mem_range.2 hi)
  rw [Bool.and_eq_true, List.all_eq_true] at this
  exact ⟨this.1, fun k hk => by simpa using this.2 k (List.mem_range.2 hk)⟩
end Go.Sp

namespace Go.Am
open Go.RowKit

theorem Sim.grow {K : Ctx} {β : Book} {s : ASt} {a : Act} {w w' : World} (hs : Sim K β s a w) (hb : Below w.heap.size w w') : Sim K β s a w' := by
  have hk : Keeps β w β w' := keeps_ext hb
  have hkp : Kept K.B K.G w w' := (Kept.ofBelow K.G hb).mono hs.hB (fun _ _ h => h)
  exact ⟨fun n => (hs.slot n).keep hk, hs.size, hs.defers.kept hkp, fun id o ho => (hs.heap id o ho).imp (fun ⟨b, h1, h2⟩ => ⟨b, h1, h2.keep hk (hb.block b (hs.live id b _ _ h1).2)⟩) (fun h => h), hs.inj, hs.fresh,
    fun id b n mu h => ⟨(hs.live id b n mu h).1, Nat.lt_of_lt_of_le (hs.live id b n mu h).2 hb.size⟩, hs.giv, hs.bF, hs.hF, hs.kept.trans hkp, Nat.le_trans hs.hB hb.size, fun g m h hgl => (hs.glob g m h hgl).keep hk⟩

theorem Sim.slots {K : Ctx} {β : Book} {s s' : ASt} {a a' : Act} {w : World} (hs : Sim K β s a w) (hH : s'.H = s.H) (hc : s'.c = s.c) (hsz : a'.tmps.size = a.tmps.size) (hd : a'.defers = a.defers) (h : ∀ n, Rel β w (s'.fr n) (a'.tmps.getD n undef)) : Sim K β s' a' w :=
  ⟨h, hsz.trans hs.size, by rw [hd]; exact hs.defers, fun id o ho => hs.heap id o (hH ▸ ho), hs.inj, fun id h => hs.fresh id (hc ▸ h), hs.live, hs.giv, hs.bF, hs.hF, hs.kept, hs.hB, hs.glob⟩

theorem lookZ_cons_ne {m n : Nat} {ns : List Nat} {v : AV} {vs : List AV} (h : m ≠ n) : lookZ (m :: ns) (v :: vs) n = lookZ ns vs n := by
  have hb : Nat.beq m n = false := by grind [Nat.beq,absurd,Nat.eq_of_beq_eq_true]
  simp_all [lookZ,cond_false]
theorem lookZ_cons_eq {m : Nat} {ns : List Nat} {v : AV} {vs : List AV} : lookZ (m :: ns) (v :: vs) m = v := by simp [lookZ]

theorem getD_put_eq {a : Act} {d : Nat} {v : Value} (h : d < a.tmps.size) : (a.put (some d) v).tmps.getD d undef = v := by simp [Act.put, Array.getD_eq_getD_getElem?, h]

theorem Sim.put {K : Ctx} {β : Book} {ns : List Nat} {vs : List AV} {obs : List (Option Ob)} {a : Act} {w : World} {d : Nat} {v : Value} {x : AV} (hs : Sim K β (mkSt ns vs obs) a w) (hdt : d < K.nt) (hr : Rel β w x v) : Sim K β (mkSt (d :: ns) (x :: vs) obs) (a.put (some d) v) w := by
  have hdt' : d < a.tmps.size := by rw [hs.size]; omega
  refine hs.slots rfl rfl (by simp [Act.put]) rfl (fun n => ?_)
  show Rel β w (lookZ (d :: ns) (x :: vs) n) _
  by_cases h : d = n
  · grind [lookZ_cons_eq,getD_put_eq]
  · rw [lookZ_cons_ne h, getD_put_ne (Ne.symm h)]
    exact hs.slot n

theorem Sim.drop {K : Ctx} {β : Book} {ns : List Nat} {vs : List AV} {obs : List (Option Ob)} {a : Act} {w : World} {d : Nat} {x : AV} (hd : d ∉ ns) (hs : Sim K β (mkSt (d :: ns) (x :: vs) obs) a w) : Sim K β (mkSt ns vs obs) a w := by
  refine hs.slots rfl rfl rfl rfl (fun n => ?_)
  show Rel β w (lookZ ns vs n) _
  by_cases h : d = n
  · subst h; rw [lookZ_none hd]; exact .junk
  · have := hs.slot n
    have e : (mkSt (d :: ns) (x :: vs) obs).fr n = lookZ ns vs n := lookZ_cons_ne h
    grind

theorem SetIn.put {P : Program} {w : World} {b n : Nat} {M : Int → Bool} {t k e : TypeId} {A : Int} (h : SetIn w b n M) (ht : P.underlying t = some (.map k e)) (hk : P.underlying k = some (.int .i64)) (he : P.underlying e = some .bool) (hn : n < maxLen) (hA : (Lit.int .i64 A).wf = true) :
    ∃ w', (Instr.mapUpdate t (.map (some b)) (.int .i64 A) (.bool true)).run P w = .ok () w' ∧ SetIn w' b (n + 1) (fun y => M y || decide (y = A)) ∧ w.grownBy w' (some b) := by
  obtain ⟨P', k', e', D, g1, g2, g3, g4⟩ := h
  have own := plain_any g1 g2 hk he g3
  obtain ⟨w', r1, r2, r3⟩ := own.update (Maps.int_keyed hk) ht hn (Maps.keyOf_int_mk hk hA) (plainElem_bool he true)
  refine ⟨w', r1, ⟨P, k, e, _, hk, he, r2, fun x hx => ?_⟩, r3⟩
  by_cases hxa : x = A
  · subst hxa
    rw [Maps.atKey_put_same (own.isMap) ((Maps.int_keyed hk).key (Maps.keyOf_int_mk hk hA))]
    simp
  grind [Maps.atKey_put_other]


theorem Round.wp {K : Ctx} {own : FuncId → Option (List Bool)} {ng : Nat} {c : Code} {s s' : ASt} {β : Book} {a : Act} {w : World} {pins : List Nat} {Q : Exit → Act → World → Prop} (hr : Round K.P K.gl own ng K.nt c s s') (hk : keepsC pins c = true) (hng : ∀ id, ng ≤ id → K.b0 id = none) (hm : K.P.follows .mixedOrders = true) (hs : Sim K β s a w)
    (hQ : ∀ β' a' w', Sim K β' s' a' w' → PinIn pins a a' → Q .normal a' w') : c.wp K.P Q a w := by
  refine wp_mono (wpIn_wide (n := 9).1 (Round.in (F := Fence.wide) hr (.inl rfl) hk hng hm hs)) ?_
  grind

end Go.Am
