/- Part of the proof: GS9, GS10, GS11, Tag, GS12, GS13, GS14, GS15, Enc, GS16, EnOpen, EnRow. -/
import Derived.Test.YtmhipmiacghgeaaGreatDoorM4
import Derived.Test.YtmhipmiacghgeaaGreatDoorProg
import Derived.Test.YtmhipmiacghgeaaGreatDoorM3
import Derived.ProofKit
import Derived.Deep.Slices
namespace Go.Proofs.YtmhipmiacghgeaaGreatDoor
open Go Go.Am Go.Sp
set_option maxRecDepth 100000

theorem mix_r (s b w : Nat → Int) (R : Nat → Nat → Int) (hsch : Pure Tryz.prog gl0 186 [bys 64 b] (.agg ((List.range 64).map fun j => .int .u32 (w j)))) (hR : Rnd s w R) : Pure Tryz.prog gl0 175 [.agg ((List.range 8).map fun j => .int .u32 (s j)), bys 64 b] (.agg ((List.range 8).map fun j => .int .u32 (add32 (s j) (R 64 j)))) := by
  refine pure_sk (own := ow0) Tryz.func175 (by kernel_rfl) mixed (by kernel_rfl)
    (.sc (true) 186 ([AV.isl (1) (64) fun (i x : Nat) => Zb (b i)]) (AV.agg (List.map (fun (j : Nat) => Zw (w j)) (List.range (64 : Nat)))) (.req ((0 : Int) ≤ (0 : Int) ∧ (0 : Int) < (↑(8) : Int)) (.req ((0 : Int) ≤ (1 : Int) ∧ (1 : Int) < (↑(8) : Int)) (.req ((0 : Int) ≤ (2 : Int) ∧ (2 : Int) < (↑(8) : Int)) (.req ((0 : Int) ≤ (3 : Int) ∧ (3 : Int) < (↑(8) : Int)) (.req ((0 : Int) ≤ (4 : Int) ∧ (4 : Int) < (↑(8) : Int)) (.req ((0 : Int) ≤ (5 : Int) ∧ (5 : Int) < (↑(8) : Int)) (.req ((0 : Int) ≤ (6 : Int) ∧ (6 : Int) < (↑(8) : Int)) (.req ((0 : Int) ≤ (7 : Int) ∧ (7 : Int) < (↑(8) : Int)) (.loop ({ x : Nat // x ≤ (64 : Nat) }) (fun (x : { x : Nat // x ≤ (64 : Nat) }) => mkSt [2, 4, 5, 6, 7, 8, 9, 10, 11, 12, 13, 37] [AV.own (0) (8) (0) (0) (8), AV.own (1) (8) (0) (0) (8), AV.own (2) (64) (0) (0) (64), Zw (R (Subtype.val x) (0 : Nat)), Zw (R (Subtype.val x) (1 : Nat)), Zw (R (Subtype.val x) (2 : Nat)), Zw (R (Subtype.val x) (3 : Nat)), Zw (R (Subtype.val x) (4 : Nat)), Zw (R (Subtype.val x) (5 : Nat)), Zw (R (Subtype.val x) (6 : Nat)), Zw (R (Subtype.val x) (7 : Nat)), Zi (↑(Subtype.val x) : Int)] [some { es := 8, n := 1, mu := true, f := Rep.lst [[Zw (s (0)), Zw (s (1)), Zw (s (2)), Zw (s (3)), Zw (s (4)), Zw (s (5)), Zw (s (6)), Zw (s (7))]] }, some { es := 8, n := 1, mu := true, f := Rep.lst [[Zw 0, Zw 0, Zw 0, Zw 0, Zw 0, Zw 0, Zw 0, Zw 0]] }, some { es := (64 : Nat), n := (1 : Nat), mu := true, f := Rep.fn fun (x j : Nat) => Zw (w j) }]) (fun (x : { x : Nat // x ≤ (64 : Nat) }) => (64 : Nat) - Subtype.val x) (⟨(0 : Nat), Nat.zero_le (64 : Nat)⟩) ([2, 4, 5, 6, 7, 8, 9, 10, 11, 12, 13, 37]) ([0, 8, 32]) ([AV.own (0) (8) (0) (0) (8), AV.own (1) (8) (0) (0) (8), AV.own (2) (64) (0) (0) (64), Zw (s (0)), Zw (s (1)), Zw (s (2)), Zw (s (3)), Zw (s (4)), Zw (s (5)), Zw (s (6)), Zw (s (7)), Zi 0]) ([some { es := 8, n := 1, mu := true, f := Rep.lst [[Zw (s (0)), Zw (s (1)), Zw (s (2)), Zw (s (3)), Zw (s (4)), Zw (s (5)), Zw (s (6)), Zw (s (7))]] }, some { es := 8, n := 1, mu := true, f := Rep.lst [[Zw 0, Zw 0, Zw 0, Zw 0, Zw 0, Zw 0, Zw 0, Zw 0]] }, some { es := 64, n := 1, mu := true, f := Rep.lst [[Zw (w (0)), Zw (w (1)), Zw (w (2)), Zw (w (3)), Zw (w (4)), Zw (w (5)), Zw (w (6)), Zw (w (7)), Zw (w (8)), Zw (w (9)), Zw (w (10)), Zw (w (11)), Zw (w (12)), Zw (w (13)), Zw (w (14)), Zw (w (15)), Zw (w (16)), Zw (w (17)), Zw (w (18)), Zw (w (19)), Zw (w (20)), Zw (w (21)), Zw (w (22)), Zw (w (23)), Zw (w (24)), Zw (w (25)), Zw (w (26)), Zw (w (27)), Zw (w (28)), Zw (w (29)), Zw (w (30)), Zw (w (31)), Zw (w (32)), Zw (w (33)), Zw (w (34)), Zw (w (35)), Zw (w (36)), Zw (w (37)), Zw (w (38)), Zw (w (39)), Zw (w (40)), Zw (w (41)), Zw (w (42)), Zw (w (43)), Zw (w (44)), Zw (w (45)), Zw (w (46)), Zw (w (47)), Zw (w (48)), Zw (w (49)), Zw (w (50)), Zw (w (51)), Zw (w (52)), Zw (w (53)), Zw (w (54)), Zw (w (55)), Zw (w (56)), Zw (w (57)), Zw (w (58)), Zw (w (59)), Zw (w (60)), Zw (w (61)), Zw (w (62)), Zw (w (63))]] }]) (fun x9 => (.br (decide ((↑x9.1 : Int) < (64 : Int))) (.sc (true) 187 ([Zw (R x9.1 (4)), Zi 6]) (Zw (rotr (R x9.1 (4)) (6 : Nat))) (.sc (true) 187 ([Zw (R x9.1 (4)), Zi 11]) (Zw (rotr (R x9.1 (4)) (11 : Nat))) (.sc (true) 187 ([Zw (R x9.1 (4)), Zi 25]) (Zw (rotr (R x9.1 (4)) (25 : Nat))) (.req ((0 : Int) ≤ (↑x9.1 : Int) ∧ (↑x9.1 : Int) < (↑(64) : Int)) (.req ((0 : Int) ≤ (↑x9.1 : Int) ∧ (↑x9.1 : Int) < (↑(64) : Int)) (.sc (true) 187 ([Zw (R x9.1 (0)), Zi 2]) (Zw (rotr (R x9.1 (0)) (2 : Nat))) (.sc (true) 187 ([Zw (R x9.1 (0)), Zi 13]) (Zw (rotr (R x9.1 (0)) (13 : Nat))) (.sc (true) 187 ([Zw (R x9.1 (0)), Zi 22]) (Zw (rotr (R x9.1 (0)) (22 : Nat))) (.again (Again (0) (fun (x : { x : Nat // x ≤ (64 : Nat) }) => mkSt [2, 4, 5, 6, 7, 8, 9, 10, 11, 12, 13, 37] [AV.own (0) (8) (0) (0) (8), AV.own (1) (8) (0) (0) (8), AV.own (2) (64) (0) (0) (64), Zw (R (Subtype.val x) (0 : Nat)), Zw (R (Subtype.val x) (1 : Nat)), Zw (R (Subtype.val x) (2 : Nat)), Zw (R (Subtype.val x) (3 : Nat)), Zw (R (Subtype.val x) (4 : Nat)), Zw (R (Subtype.val x) (5 : Nat)), Zw (R (Subtype.val x) (6 : Nat)), Zw (R (Subtype.val x) (7 : Nat)), Zi (↑(Subtype.val x) : Int)] [some { es := 8, n := 1, mu := true, f := Rep.lst [[Zw (s (0)), Zw (s (1)), Zw (s (2)), Zw (s (3)), Zw (s (4)), Zw (s (5)), Zw (s (6)), Zw (s (7))]] }, some { es := 8, n := 1, mu := true, f := Rep.lst [[Zw 0, Zw 0, Zw 0, Zw 0, Zw 0, Zw 0, Zw 0, Zw 0]] }, some { es := (64 : Nat), n := (1 : Nat), mu := true, f := Rep.fn fun (x j : Nat) => Zw (w j) }]) (fun (x : { x : Nat // x ≤ (64 : Nat) }) => (64 : Nat) - Subtype.val x) x9) ([2, 4, 5, 6, 7, 8, 9, 10, 11, 12, 13, 37]) ([0, 1, 2]) ([AV.own (0) (8) (0) (0) (8), AV.own (1) (8) (0) (0) (8), AV.own (2) (64) (0) (0) (64), Zw (IntKind.wrap IntKind.u32 (IntKind.wrap IntKind.u32 (IntKind.wrap IntKind.u32 (IntKind.wrap IntKind.u32 (IntKind.wrap IntKind.u32 (R x9.1 (7) + IntKind.wrap IntKind.u32 (↑(BitVec.toNat (BitVec.ofInt (32) (IntKind.wrap IntKind.u32 (↑(BitVec.toNat (BitVec.ofInt (32) (rotr (R x9.1 (4)) (6)) ^^^ BitVec.ofInt (32) (rotr (R x9.1 (4)) (11)))) : Int)) ^^^ BitVec.ofInt (32) (rotr (R x9.1 (4)) (25)))) : Int)) + IntKind.wrap IntKind.u32 (↑(BitVec.toNat (BitVec.ofInt (32) (IntKind.wrap IntKind.u32 (↑(BitVec.toNat (BitVec.ofInt (32) (R x9.1 (4)) &&& BitVec.ofInt (32) (R x9.1 (5)))) : Int)) ^^^ BitVec.ofInt (32) (IntKind.wrap IntKind.u32 (↑(BitVec.toNat (BitVec.ofInt (32) (IntKind.wrap IntKind.u32 (↑(BitVec.toNat (BitVec.ofInt (32) (if false = true then (-1 : Int) else IntKind.max IntKind.u32) ^^^ BitVec.ofInt (32) (R x9.1 (4)))) : Int)) &&& BitVec.ofInt (32) (R x9.1 (6)))) : Int)))) : Int)) + kF (Int.toNat (↑x9.1 : Int))) + w (0 + Int.toNat (↑x9.1 : Int))) + IntKind.wrap IntKind.u32 (IntKind.wrap IntKind.u32 (↑(BitVec.toNat (BitVec.ofInt (32) (IntKind.wrap IntKind.u32 (↑(BitVec.toNat (BitVec.ofInt (32) (rotr (R x9.1 (0)) (2)) ^^^ BitVec.ofInt (32) (rotr (R x9.1 (0)) (13)))) : Int)) ^^^ BitVec.ofInt (32) (rotr (R x9.1 (0)) (22)))) : Int) + IntKind.wrap IntKind.u32 (↑(BitVec.toNat (BitVec.ofInt (32) (IntKind.wrap IntKind.u32 (↑(BitVec.toNat (BitVec.ofInt (32) (IntKind.wrap IntKind.u32 (↑(BitVec.toNat (BitVec.ofInt (32) (R x9.1 (0)) &&& BitVec.ofInt (32) (R x9.1 (1)))) : Int)) ^^^ BitVec.ofInt (32) (IntKind.wrap IntKind.u32 (↑(BitVec.toNat (BitVec.ofInt (32) (R x9.1 (0)) &&& BitVec.ofInt (32) (R x9.1 (2)))) : Int)))) : Int)) ^^^ BitVec.ofInt (32) (IntKind.wrap IntKind.u32 (↑(BitVec.toNat (BitVec.ofInt (32) (R x9.1 (1)) &&& BitVec.ofInt (32) (R x9.1 (2)))) : Int)))) : Int)))), Zw (R x9.1 (0)), Zw (R x9.1 (1)), Zw (R x9.1 (2)), Zw (IntKind.wrap IntKind.u32 (R x9.1 (3) + IntKind.wrap IntKind.u32 (IntKind.wrap IntKind.u32 (IntKind.wrap IntKind.u32 (IntKind.wrap IntKind.u32 (R x9.1 (7) + IntKind.wrap IntKind.u32 (↑(BitVec.toNat (BitVec.ofInt (32) (IntKind.wrap IntKind.u32 (↑(BitVec.toNat (BitVec.ofInt (32) (rotr (R x9.1 (4)) (6)) ^^^ BitVec.ofInt (32) (rotr (R x9.1 (4)) (11)))) : Int)) ^^^ BitVec.ofInt (32) (rotr (R x9.1 (4)) (25)))) : Int)) + IntKind.wrap IntKind.u32 (↑(BitVec.toNat (BitVec.ofInt (32) (IntKind.wrap IntKind.u32 (↑(BitVec.toNat (BitVec.ofInt (32) (R x9.1 (4)) &&& BitVec.ofInt (32) (R x9.1 (5)))) : Int)) ^^^ BitVec.ofInt (32) (IntKind.wrap IntKind.u32 (↑(BitVec.toNat (BitVec.ofInt (32) (IntKind.wrap IntKind.u32 (↑(BitVec.toNat (BitVec.ofInt (32) (if false = true then (-1 : Int) else IntKind.max IntKind.u32) ^^^ BitVec.ofInt (32) (R x9.1 (4)))) : Int)) &&& BitVec.ofInt (32) (R x9.1 (6)))) : Int)))) : Int)) + kF (Int.toNat (↑x9.1 : Int))) + w (0 + Int.toNat (↑x9.1 : Int))))), Zw (R x9.1 (4)), Zw (R x9.1 (5)), Zw (R x9.1 (6)), Zi (IntKind.wrap IntKind.i64 ((↑x9.1 : Int) + (1 : Int)))]) ([some { es := 8, n := 1, mu := true, f := Rep.lst [[Zw (s (0)), Zw (s (1)), Zw (s (2)), Zw (s (3)), Zw (s (4)), Zw (s (5)), Zw (s (6)), Zw (s (7))]] }, some { es := 8, n := 1, mu := true, f := Rep.lst [[Zw 0, Zw 0, Zw 0, Zw 0, Zw 0, Zw 0, Zw 0, Zw 0]] }, some { es := 64, n := 1, mu := true, f := Rep.fn fun (i j : Nat) => Zw (w j) }])))))))))) (.loop ({ x : Nat // x ≤ (8 : Nat) }) (fun (x : { x : Nat // x ≤ (8 : Nat) }) => mkSt [2, 4, 108, 109] [AV.own (0) (8) (0) (0) (8), AV.own (1) (8) (0) (0) (8), AV.agg (List.map (fun (j : Nat) => Zw (R (64 : Nat) j)) (List.range (8 : Nat))), Zi (↑(Subtype.val x) : Int)] [some { es := (8 : Nat), n := (1 : Nat), mu := true, f := Rep.fn fun (x_1 j : Nat) => Zw (bif Nat.blt j (Subtype.val x) then add32 (s j) (R (64 : Nat) j) else s j) }, some { es := 8, n := 1, mu := true, f := Rep.lst [[Zw 0, Zw 0, Zw 0, Zw 0, Zw 0, Zw 0, Zw 0, Zw 0]] }]) (fun (x : { x : Nat // x ≤ (8 : Nat) }) => (8 : Nat) - Subtype.val x) (⟨(0 : Nat), Nat.zero_le (8 : Nat)⟩) ([2, 4, 108, 109]) ([0, 1]) ([AV.own (0) (8) (0) (0) (8), AV.own (1) (8) (0) (0) (8), AV.agg [Zw (R x9.1 (0)), Zw (R x9.1 (1)), Zw (R x9.1 (2)), Zw (R x9.1 (3)), Zw (R x9.1 (4)), Zw (R x9.1 (5)), Zw (R x9.1 (6)), Zw (R x9.1 (7))], Zi 0]) ([some { es := 8, n := 1, mu := true, f := Rep.lst [[Zw (s (0)), Zw (s (1)), Zw (s (2)), Zw (s (3)), Zw (s (4)), Zw (s (5)), Zw (s (6)), Zw (s (7))]] }, some { es := 8, n := 1, mu := true, f := Rep.lst [[Zw 0, Zw 0, Zw 0, Zw 0, Zw 0, Zw 0, Zw 0, Zw 0]] }]) (fun x20 => (.br (decide ((↑x20.1 : Int) < (8 : Int))) (.req ((0 : Int) ≤ (↑x20.1 : Int) ∧ (↑x20.1 : Int) < (↑(8) : Int)) (.req ((0 : Int) ≤ (↑x20.1 : Int) ∧ (↑x20.1 : Int) < (↑(8) : Int)) (.req ((0 : Int) ≤ (↑x20.1 : Int) ∧ (↑x20.1 : Int) < (↑(8) : Int)) (.again (Again (0) (fun (x : { x : Nat // x ≤ (8 : Nat) }) => mkSt [2, 4, 108, 109] [AV.own (0) (8) (0) (0) (8), AV.own (1) (8) (0) (0) (8), AV.agg (List.map (fun (j : Nat) => Zw (R (64 : Nat) j)) (List.range (8 : Nat))), Zi (↑(Subtype.val x) : Int)] [some { es := (8 : Nat), n := (1 : Nat), mu := true, f := Rep.fn fun (x_1 j : Nat) => Zw (bif Nat.blt j (Subtype.val x) then add32 (s j) (R (64 : Nat) j) else s j) }, some { es := 8, n := 1, mu := true, f := Rep.lst [[Zw 0, Zw 0, Zw 0, Zw 0, Zw 0, Zw 0, Zw 0, Zw 0]] }]) (fun (x : { x : Nat // x ≤ (8 : Nat) }) => (8 : Nat) - Subtype.val x) x20) ([2, 4, 108, 109]) ([0, 1]) ([AV.own (0) (8) (0) (0) (8), AV.own (1) (8) (0) (0) (8), AV.agg [Zw (R (64) (0)), Zw (R (64) (1)), Zw (R (64) (2)), Zw (R (64) (3)), Zw (R (64) (4)), Zw (R (64) (5)), Zw (R (64) (6)), Zw (R (64) (7))], Zi (IntKind.wrap IntKind.i64 ((↑x20.1 : Int) + (1 : Int)))]) ([some { es := 8, n := 1, mu := true, f := Rep.fn fun (i j : Nat) => Zw (bif Nat.beq i (0) && Nat.beq j (0 + Int.toNat (↑x20.1 : Int)) then IntKind.wrap IntKind.u32 ((bif Nat.blt (0 + Int.toNat (↑x20.1 : Int)) x20.1 then add32 (s (0 + Int.toNat (↑x20.1 : Int))) (R (64) (0 + Int.toNat (↑x20.1 : Int))) else s (0 + Int.toNat (↑x20.1 : Int))) + intOfAV (atL [Zw (R (64 : Nat) (0)), Zw (R (64 : Nat) (1)), Zw (R (64 : Nat) (2)), Zw (R (64 : Nat) (3)), Zw (R (64 : Nat) (4)), Zw (R (64 : Nat) (5)), Zw (R (64 : Nat) (6)), Zw (R (64 : Nat) (7))] (Int.toNat (↑x20.1 : Int)))) else bif Nat.blt j x20.1 then add32 (s j) (R (64) j) else s j) }, some { es := 8, n := 1, mu := true, f := Rep.lst [[Zw 0, Zw 0, Zw 0, Zw 0, Zw 0, Zw 0, Zw 0, Zw 0]] }]))))) (.out (AV.agg [Zw (bif Nat.blt (0) x20.1 then add32 (s (0)) (R (64) (0)) else s (0)), Zw (bif Nat.blt (1) x20.1 then add32 (s (1)) (R (64) (1)) else s (1)), Zw (bif Nat.blt (2) x20.1 then add32 (s (2)) (R (64) (2)) else s (2)), Zw (bif Nat.blt (3) x20.1 then add32 (s (3)) (R (64) (3)) else s (3)), Zw (bif Nat.blt (4) x20.1 then add32 (s (4)) (R (64) (4)) else s (4)), Zw (bif Nat.blt (5) x20.1 then add32 (s (5)) (R (64) (5)) else s (5)), Zw (bif Nat.blt (6) x20.1 then add32 (s (6)) (R (64) (6)) else s (6)), Zw (bif Nat.blt (7) x20.1 then add32 (s (7)) (R (64) (7)) else s (7))]) [] (AV.agg (List.map (fun (j : Nat) => Zw (add32 (s j) (R (64 : Nat) j))) (List.range (8 : Nat)))) []))))))))))))))))
    (by kernel_rfl) ?_
  refine k_sc (hsch) ?_
  refine k_req (by first | omega | (simp only [Int.toNat_natCast]; omega)) ?_
  refine k_req (by first | omega | (simp only [Int.toNat_natCast]; omega)) ?_
  refine k_req (by first | omega | (simp only [Int.toNat_natCast]; omega)) ?_
  refine k_req (by first | omega | (simp only [Int.toNat_natCast]; omega)) ?_
  refine k_req (by first | omega | (simp only [Int.toNat_natCast]; omega)) ?_
  refine k_req (by first | omega | (simp only [Int.toNat_natCast]; omega)) ?_
  refine k_req (by first | omega | (simp only [Int.toNat_natCast]; omega)) ?_
  refine k_req (by first | omega | (simp only [Int.toNat_natCast]; omega)) ?_
  --LOOPINFO kept [2, 4, 5] changed [6, 7, 8, 9, 10, 11, 12, 13, 37] objects [0, 8, 32]
  --LOOPINFO   obj 0: some { es := 8, n := 1, mu := true, f := Rep.lst [[Zw (s (0)), Zw (s (1)), Zw (s (2)), Zw (s (3)), Zw (s (4)), Zw (s (5)), Zw (s (6)), Zw (s (7))]] }
  --LOOPINFO   obj 1: some { es := 8, n := 1, mu := true, f := Rep.lst [[Zw 0, Zw 0, Zw 0, Zw 0, Zw 0, Zw 0, Zw 0, Zw 0]] }
  refine k_loop (fun _ hs => hs.le (⟨by first | exact Ent.refl _ | exact inc_ent (by omega) | exact Ent.nil rfl | exact Ent.of_eq (congrArg (AV.osl _ _ _) (by first | omega | (dsimp only; omega))) | exact Ent.of_eq (congrArg (AV.int _) (by first | omega | (dsimp only; omega))), by first | exact Ent.refl _ | exact inc_ent (by omega) | exact Ent.nil rfl | exact Ent.of_eq (congrArg (AV.osl _ _ _) (by first | omega | (dsimp only; omega))) | exact Ent.of_eq (congrArg (AV.int _) (by first | omega | (dsimp only; omega))), by first | exact Ent.refl _ | exact inc_ent (by omega) | exact Ent.nil rfl | exact Ent.of_eq (congrArg (AV.osl _ _ _) (by first | omega | (dsimp only; omega))) | exact Ent.of_eq (congrArg (AV.int _) (by first | omega | (dsimp only; omega))), Ent.of_eq (congrArg _ (hR.z 0).symm), Ent.of_eq (congrArg _ (hR.z 1).symm), Ent.of_eq (congrArg _ (hR.z 2).symm), Ent.of_eq (congrArg _ (hR.z 3).symm), Ent.of_eq (congrArg _ (hR.z 4).symm), Ent.of_eq (congrArg _ (hR.z 5).symm), Ent.of_eq (congrArg _ (hR.z 6).symm), Ent.of_eq (congrArg _ (hR.z 7).symm), by first | exact Ent.refl _ | exact inc_ent (by omega) | exact Ent.nil rfl | exact Ent.of_eq (congrArg (AV.osl _ _ _) (by first | omega | (dsimp only; omega))) | exact Ent.of_eq (congrArg (AV.int _) (by first | omega | (dsimp only; omega))), trivial⟩) (⟨by first | exact ObEnt.refl _ | exact ObEnt.junk | exact ObEnt.zero | exact ObEnt.push rfl rfl | exact ObEnt.pushRow rfl | exact ObEnt.len (by omega) | exact ObEnt.row (by repeat' (first | exact trivial | (first | exact Ent.refl _ | exact inc_ent (by omega) | exact Ent.nil rfl | exact Ent.of_eq (congrArg (AV.osl _ _ _) (by first | omega | (dsimp only; omega))) | exact Ent.of_eq (congrArg (AV.int _) (by first | omega | (dsimp only; omega)))) | refine And.intro ?_ ?_)), by first | exact ObEnt.refl _ | exact ObEnt.junk | exact ObEnt.zero | exact ObEnt.push rfl rfl | exact ObEnt.pushRow rfl | exact ObEnt.len (by omega) | exact ObEnt.row (by repeat' (first | exact trivial | (first | exact Ent.refl _ | exact inc_ent (by omega) | exact Ent.nil rfl | exact Ent.of_eq (congrArg (AV.osl _ _ _) (by first | omega | (dsimp only; omega))) | exact Ent.of_eq (congrArg (AV.int _) (by first | omega | (dsimp only; omega)))) | refine And.intro ?_ ?_)), ObEnt.rowR rfl, trivial⟩)) (fun x9 => ?_)
  try (have q9 := x9.2; dsimp only at q9)
  refine k_br (fun h10 => ?_) (fun h10 => ?_)
  · have g10 := cnd_dec_t h10
    refine k_sc ((fun (x : Int) => right_c x (6 : Nat)) (R x9.1 (4)) (by first | assumption | omega) (by first | assumption | omega)) ?_
    refine k_sc ((fun (x : Int) => right_c x (11 : Nat)) (R x9.1 (4)) (by first | assumption | omega) (by first | assumption | omega)) ?_
    refine k_sc ((fun (x : Int) => right_c x (25 : Nat)) (R x9.1 (4)) (by first | assumption | omega) (by first | assumption | omega)) ?_
    refine k_req (by first | omega | (simp only [Int.toNat_natCast]; omega)) ?_
    refine k_req (by first | omega | (simp only [Int.toNat_natCast]; omega)) ?_
    refine k_sc ((fun (x : Int) => right_c x (2 : Nat)) (R x9.1 (0)) (by first | assumption | omega) (by first | assumption | omega)) ?_
    refine k_sc ((fun (x : Int) => right_c x (13 : Nat)) (R x9.1 (0)) (by first | assumption | omega) (by first | assumption | omega)) ?_
    refine k_sc ((fun (x : Int) => right_c x (22 : Nat)) (R x9.1 (0)) (by first | assumption | omega) (by first | assumption | omega)) ?_
    exact k_again (⟨x9.1 + 1, by omega⟩) (fun _ hs => hs.le (⟨by first | exact Ent.refl _ | exact inc_ent (by omega) | exact Ent.nil rfl | exact Ent.of_eq (congrArg (AV.osl _ _ _) (by first | omega | (dsimp only; omega))) | exact Ent.of_eq (congrArg (AV.int _) (by first | omega | (dsimp only; omega))), by first | exact Ent.refl _ | exact inc_ent (by omega) | exact Ent.nil rfl | exact Ent.of_eq (congrArg (AV.osl _ _ _) (by first | omega | (dsimp only; omega))) | exact Ent.of_eq (congrArg (AV.int _) (by first | omega | (dsimp only; omega))), by first | exact Ent.refl _ | exact inc_ent (by omega) | exact Ent.nil rfl | exact Ent.of_eq (congrArg (AV.osl _ _ _) (by first | omega | (dsimp only; omega))) | exact Ent.of_eq (congrArg (AV.int _) (by first | omega | (dsimp only; omega))), Ent.of_eq (congrArg _ (by rw [hR.s0]; simp only [Nat.zero_add, Int.toNat_natCast]; rfl)), Ent.of_eq (congrArg _ (hR.s1 _).symm), Ent.of_eq (congrArg _ (hR.s2 _).symm), Ent.of_eq (congrArg _ (hR.s3 _).symm), Ent.of_eq (congrArg _ (by rw [hR.s4]; simp only [Nat.zero_add, Int.toNat_natCast]; rfl)), Ent.of_eq (congrArg _ (hR.s5 _).symm), Ent.of_eq (congrArg _ (hR.s6 _).symm), Ent.of_eq (congrArg _ (hR.s7 _).symm), by first | exact Ent.refl _ | exact inc_ent (by omega) | exact Ent.nil rfl | exact Ent.of_eq (congrArg (AV.osl _ _ _) (by first | omega | (dsimp only; omega))) | exact Ent.of_eq (congrArg (AV.int _) (by first | omega | (dsimp only; omega))), trivial⟩) (by repeat' (first | exact trivial | (first | exact ObEnt.refl _ | exact ObEnt.junk | exact ObEnt.zero | exact ObEnt.push rfl rfl | exact ObEnt.pushRow rfl | exact ObEnt.len (by omega) | exact ObEnt.row (by repeat' (first | exact trivial | (first | exact Ent.refl _ | exact inc_ent (by omega) | exact Ent.nil rfl | exact Ent.of_eq (congrArg (AV.osl _ _ _) (by first | omega | (dsimp only; omega))) | exact Ent.of_eq (congrArg (AV.int _) (by first | omega | (dsimp only; omega)))) | refine And.intro ?_ ?_))) | refine And.intro ?_ ?_))) (by first | omega | (dsimp only; omega) | (simp; omega))
  · have g10 := cnd_dec_f h10
    --LOOPINFO kept [2, 4] changed [108, 109] objects [0, 1]
    --LOOPINFO   obj 1: some { es := 8, n := 1, mu := true, f := Rep.lst [[Zw 0, Zw 0, Zw 0, Zw 0, Zw 0, Zw 0, Zw 0, Zw 0]] }
    refine k_loop (fun _ hs => hs.le (⟨by first | exact Ent.refl _ | exact inc_ent (by omega) | exact Ent.nil rfl | exact Ent.of_eq (congrArg (AV.osl _ _ _) (by first | omega | (dsimp only; omega))) | exact Ent.of_eq (congrArg (AV.int _) (by first | omega | (dsimp only; omega))), by first | exact Ent.refl _ | exact inc_ent (by omega) | exact Ent.nil rfl | exact Ent.of_eq (congrArg (AV.osl _ _ _) (by first | omega | (dsimp only; omega))) | exact Ent.of_eq (congrArg (AV.int _) (by first | omega | (dsimp only; omega))), Ent.of_eq (by
                                                                                                     have e : x9.1 = 64 := by omega
                                                                                                     rw [e]
                                                                                                     rfl), by first | exact Ent.refl _ | exact inc_ent (by omega) | exact Ent.nil rfl | exact Ent.of_eq (congrArg (AV.osl _ _ _) (by first | omega | (dsimp only; omega))) | exact Ent.of_eq (congrArg (AV.int _) (by first | omega | (dsimp only; omega))), trivial⟩) (⟨ObEnt.rowR rfl, by first | exact ObEnt.refl _ | exact ObEnt.junk | exact ObEnt.zero | exact ObEnt.push rfl rfl | exact ObEnt.pushRow rfl | exact ObEnt.len (by omega) | exact ObEnt.row (by repeat' (first | exact trivial | (first | exact Ent.refl _ | exact inc_ent (by omega) | exact Ent.nil rfl | exact Ent.of_eq (congrArg (AV.osl _ _ _) (by first | omega | (dsimp only; omega))) | exact Ent.of_eq (congrArg (AV.int _) (by first | omega | (dsimp only; omega)))) | refine And.intro ?_ ?_)), trivial⟩)) (fun x20 => ?_)
    refine k_br (fun h21 => ?_) (fun h21 => ?_)
    · have g21 := cnd_dec_t h21
      refine k_req (by first | omega | (simp only [Int.toNat_natCast]; omega)) ?_
      refine k_req (by first | omega | (simp only [Int.toNat_natCast]; omega)) ?_
      refine k_req (by first | omega | (simp only [Int.toNat_natCast]; omega)) ?_
      exact k_again (⟨x20.1 + 1, by omega⟩) (fun _ hs => hs.le (by repeat' (first | exact trivial | (first | exact Ent.refl _ | exact inc_ent (by omega) | exact Ent.nil rfl | exact Ent.of_eq (congrArg (AV.osl _ _ _) (by first | omega | (dsimp only; omega))) | exact Ent.of_eq (congrArg (AV.int _) (by first | omega | (dsimp only; omega)))) | refine And.intro ?_ ?_)) (⟨ObEnt.setR (P := fun i j => Nat.beq i 0 && Nat.beq j (0 + Int.toNat ((x20.1 : Nat) : Int))) (c0 := x20.1) (G := fun j => bif Nat.blt j (x20.1 + 1) then add32 (s j) (R 64 j) else s j) (fun j _ => by show (true && Nat.beq j (0 + x20.1)) = _; rw [Nat.zero_add]; rfl) (by
                                                                                                     simp only [Nat.zero_add, Int.toNat_natCast, blt_f (Nat.le_refl x20.1), blt_t (Nat.lt_succ_self x20.1), cond_true, cond_false]
                                                                                                     exact congrArg (fun z => IntKind.wrap .u32 (s x20.1 + z)) (congrArg intOfAV (atL_map_range (es := 8) (g := fun j => AV.int .u32 (R 64 j)) (by omega)))) (fun j _ he => fill_step2 (F := fun j => add32 (s j) (R 64 j)) (z := s) he), by first | exact ObEnt.refl _ | exact ObEnt.junk | exact ObEnt.zero | exact ObEnt.push rfl rfl | exact ObEnt.pushRow rfl | exact ObEnt.len (by omega) | exact ObEnt.row (by repeat' (first | exact trivial | (first | exact Ent.refl _ | exact inc_ent (by omega) | exact Ent.nil rfl | exact Ent.of_eq (congrArg (AV.osl _ _ _) (by first | omega | (dsimp only; omega))) | exact Ent.of_eq (congrArg (AV.int _) (by first | omega | (dsimp only; omega)))) | refine And.intro ?_ ?_)), trivial⟩)) (by first | omega | (dsimp only; omega) | (simp; omega))
    · have g21 := cnd_dec_f h21
      exact k_out (Ent.of_eq (by
                                                                                                     show AV.agg ((List.range 8).map fun j => .int .u32 (bif Nat.blt j x20.1 then add32 (s j) (R 64 j) else s j)) = _
                                                                                                     exact congrArg AV.agg (List.map_congr_left fun j hj => by rw [blt_t (by have := List.mem_range.1 hj; omega)]; rfl)))

theorem mix_c (s b : Nat → Int) (hb : byB b 64) : Pure Tryz.prog gl0 175 [.agg ((List.range 8).map fun j => .int .u32 (s j)), bys 64 b] (.agg ((List.range 8).map fun j => .int .u32 (mixF s b j))) :=
  mix_r s b (wordF b) (roundF s (wordF b)) (schedule_c b hb) (rnd s (wordF b))

end Go.Proofs.YtmhipmiacghgeaaGreatDoor

namespace Go.Proofs.YtmhipmiacghgeaaGreatDoor
open Go Go.Am Go.Sp
set_option maxRecDepth 100000

/-- Which functions hand over what they make. -/
def ow1 : FuncId → Option (List Bool) := fun f => bif Nat.beq f 156 then some [false] else none

theorem cloneB2_n : Gives Tryz.prog gl0 156 [] [.nsl] .nsl [] := by
  refine gives_sk (own := ow0) (hand := true) Tryz.func156 (by kernel_rfl) mixed (by kernel_rfl)
    (.tt (.out (AV.nsl) [] (AV.nsl) []))
    (by kernel_rfl) ?_
  refine k_tt ?_
  exact k_out (Ent.refl _)
theorem cloneB2_s (f : Nat → Int) (n : Nat) (hn : n ≤ 1099511627776) : Gives Tryz.prog gl0 156 [] [.nn (bys n f)] (.osl 0 1 0 n) [some ⟨1, n, true, .fn fun i _ => .int .u8 (f i)⟩] := by
  refine gives_sk (own := ow0) (hand := true) Tryz.func156 (by kernel_rfl) mixed (by kernel_rfl)
    (.ff (.req ((0 + n) * 1 ≤ 140737488355328) (.out (AV.osl (0) (1) (0) (0 + n)) ([some { es := 1, n := 0 + n, mu := true, f := Rep.fn fun (i j : Nat) => Zb (f i) }]) (AV.osl (0 : Nat) (1 : Nat) (0 : Nat) n) ([some { es := (1 : Nat), n := n, mu := true, f := Rep.fn fun (i x : Nat) => Zb (f i) }]))))
    (by kernel_rfl) ?_
  refine k_ff ?_
  refine k_req (by first | omega | (simp only [Int.toNat_natCast]; omega)) ?_
  exact k_outg (Ent.of_eq (by simp)) (⟨⟨rfl, by simp, rfl, fun i j _ _ => Ent.of_eq (by simp)⟩, trivial⟩)
theorem cloneB2_c (f : Nat → Int) (n : Nat) (hn : n ≤ 1099511627776) : Gives Tryz.prog gl0 156 [] [bys n f] (.osl 0 1 0 n) [some ⟨1, n, true, .fn fun i _ => .int .u8 (f i)⟩] :=
  Gives.nilSplit [] [] 1 n _ (fun h => by subst h; exact cloneB2_n.nil 1 _) (cloneB2_s f n hn)

theorem sum_r (f : Nat → Int) (n : Nat) (hn : n ≤ 1099511627776) (p : Nat → Int) (ST : Nat → Nat → Int) (hp : p = padF n f) (h0 : ST 0 = stF)
    (hmix : ∀ (k : Nat) (q : Nat → Int), (∀ i, i < 64 → q i = p (64 * k + i)) → Pure Tryz.prog gl0 175 [.agg ((List.range 8).map fun j => .int .u32 (ST k j)), bys 64 q] (.agg ((List.range 8).map fun j => .int .u32 (ST (k + 1) j)))) :
    Pure Tryz.prog gl0 155 [bys n f] (.agg (u8c (outF (ST (padLen n / 64))))) := by
  have pl := pad_len n
  refine pure_sk (own := ow1) Tryz.func155 (by kernel_rfl) mixed (by kernel_rfl)
    (.gc 156 ([]) ([AV.isl (1) n fun (i x : Nat) => Zb (f i)]) (AV.osl (0 : Nat) (1 : Nat) (0 : Nat) n) ([some { es := (1 : Nat), n := n, mu := true, f := Rep.fn fun (i x : Nat) => Zb (f i) }]) (.req ((n + 1) * 1 ≤ 140737488355328) (.loop ({ x : Nat // x ≤ padLen n - n - (9 : Nat) }) (fun (x : { x : Nat // x ≤ padLen n - n - (9 : Nat) }) => mkSt [0, 2, 3] [AV.isl (1) n fun (i x : Nat) => Zb (f i), AV.own (0) (32) (0) (0) (32), AV.osl (1 : Nat) (1 : Nat) (0 : Nat) (n + (1 : Nat) + Subtype.val x)] [some { es := 32, n := 1, mu := true, f := Rep.lst [[Zb 0, Zb 0, Zb 0, Zb 0, Zb 0, Zb 0, Zb 0, Zb 0, Zb 0, Zb 0, Zb 0, Zb 0, Zb 0, Zb 0, Zb 0, Zb 0, Zb 0, Zb 0, Zb 0, Zb 0, Zb 0, Zb 0, Zb 0, Zb 0, Zb 0, Zb 0, Zb 0, Zb 0, Zb 0, Zb 0, Zb 0, Zb 0]] }, some { es := (1 : Nat), n := n + (1 : Nat) + Subtype.val x, mu := true, f := Rep.fn fun (i x : Nat) => Zb (pad0 n f i) }]) (fun (x : { x : Nat // x ≤ padLen n - n - (9 : Nat) }) => padLen n - n - (9 : Nat) - Subtype.val x) (⟨(0 : Nat), Nat.zero_le (padLen n - n - (9 : Nat))⟩) ([0, 2, 3]) ([0, 32]) ([AV.isl (1) n fun (i x : Nat) => Zb (f i), AV.own (0) (32) (0) (0) (32), AV.osl (1) (1) (0) (n + 1)]) ([some { es := 32, n := 1, mu := true, f := Rep.lst [[Zb 0, Zb 0, Zb 0, Zb 0, Zb 0, Zb 0, Zb 0, Zb 0, Zb 0, Zb 0, Zb 0, Zb 0, Zb 0, Zb 0, Zb 0, Zb 0, Zb 0, Zb 0, Zb 0, Zb 0, Zb 0, Zb 0, Zb 0, Zb 0, Zb 0, Zb 0, Zb 0, Zb 0, Zb 0, Zb 0, Zb 0, Zb 0]] }, some { es := 1, n := n + 1, mu := true, f := Rep.fn fun (i j : Nat) => Zb (bif Nat.blt i n then f i else intOfAV (atL [Zb 128] j)) }]) (fun x2 => (.br (Int.tmod (↑(n + 1 + x2.1) : Int) (64 : Int) != (56 : Int)) (.req ((n + 1 + x2.1 + 1) * 1 ≤ 140737488355328) (.again (Again (0) (fun (x : { x : Nat // x ≤ padLen n - n - (9 : Nat) }) => mkSt [0, 2, 3] [AV.isl (1) n fun (i x : Nat) => Zb (f i), AV.own (0) (32) (0) (0) (32), AV.osl (1 : Nat) (1 : Nat) (0 : Nat) (n + (1 : Nat) + Subtype.val x)] [some { es := 32, n := 1, mu := true, f := Rep.lst [[Zb 0, Zb 0, Zb 0, Zb 0, Zb 0, Zb 0, Zb 0, Zb 0, Zb 0, Zb 0, Zb 0, Zb 0, Zb 0, Zb 0, Zb 0, Zb 0, Zb 0, Zb 0, Zb 0, Zb 0, Zb 0, Zb 0, Zb 0, Zb 0, Zb 0, Zb 0, Zb 0, Zb 0, Zb 0, Zb 0, Zb 0, Zb 0]] }, some { es := (1 : Nat), n := n + (1 : Nat) + Subtype.val x, mu := true, f := Rep.fn fun (i x : Nat) => Zb (pad0 n f i) }]) (fun (x : { x : Nat // x ≤ padLen n - n - (9 : Nat) }) => padLen n - n - (9 : Nat) - Subtype.val x) x2) ([0, 2, 3]) ([0, 50]) ([AV.isl (1) n fun (i x : Nat) => Zb (f i), AV.own (0) (32) (0) (0) (32), AV.osl (1) (1) (0) (n + 1 + x2.1 + 1)]) ([some { es := 32, n := 1, mu := true, f := Rep.lst [[Zb 0, Zb 0, Zb 0, Zb 0, Zb 0, Zb 0, Zb 0, Zb 0, Zb 0, Zb 0, Zb 0, Zb 0, Zb 0, Zb 0, Zb 0, Zb 0, Zb 0, Zb 0, Zb 0, Zb 0, Zb 0, Zb 0, Zb 0, Zb 0, Zb 0, Zb 0, Zb 0, Zb 0, Zb 0, Zb 0, Zb 0, Zb 0]] }, some { es := 1, n := n + 1 + x2.1 + 1, mu := true, f := Rep.fn fun (i j : Nat) => Zb (bif Nat.blt i (n + 1 + x2.1) then pad0 n f i else intOfAV (atL [Zb 0] j)) }]))) (.dc (true) 174 ([Zu (IntKind.wrap IntKind.u64 ((8 : Int) * IntKind.wrap IntKind.u64 (↑n : Int)))]) (bys (8 : Nat) (be8 (IntKind.wrap IntKind.u64 ((8 : Int) * IntKind.wrap IntKind.u64 (↑n : Int))))) (.req ((n + 1 + x2.1 + 8) * 1 ≤ 140737488355328) (.loop ({ x : Nat // x ≤ padLen n / (64 : Nat) }) (fun (x : { x : Nat // x ≤ padLen n / (64 : Nat) }) => mkSt [2, 4, 3] [AV.own (0) (32) (0) (0) (32), AV.own (1) (8) (0) (0) (8), AV.osl (2 : Nat) (1 : Nat) ((64 : Nat) * Subtype.val x) (padLen n - (64 : Nat) * Subtype.val x)] [some { es := 32, n := 1, mu := true, f := Rep.lst [[Zb 0, Zb 0, Zb 0, Zb 0, Zb 0, Zb 0, Zb 0, Zb 0, Zb 0, Zb 0, Zb 0, Zb 0, Zb 0, Zb 0, Zb 0, Zb 0, Zb 0, Zb 0, Zb 0, Zb 0, Zb 0, Zb 0, Zb 0, Zb 0, Zb 0, Zb 0, Zb 0, Zb 0, Zb 0, Zb 0, Zb 0, Zb 0]] }, some { es := (8 : Nat), n := (1 : Nat), mu := true, f := Rep.lst [List.map (fun (j : Nat) => Zw (ST (Subtype.val x) j)) (List.range (8 : Nat))] }, some { es := (1 : Nat), n := padLen n, mu := true, f := Rep.fn fun (i x : Nat) => Zb (p i) }]) (fun (x : { x : Nat // x ≤ padLen n / (64 : Nat) }) => padLen n / (64 : Nat) - Subtype.val x) (⟨(0 : Nat), Nat.zero_le (padLen n / (64 : Nat))⟩) ([2, 4, 3]) ([0, 106, 82]) ([AV.own (0) (32) (0) (0) (32), AV.own (1) (8) (0) (0) (8), AV.osl (2) (1) (0) (n + 1 + x2.1 + 8)]) ([some { es := 32, n := 1, mu := true, f := Rep.lst [[Zb 0, Zb 0, Zb 0, Zb 0, Zb 0, Zb 0, Zb 0, Zb 0, Zb 0, Zb 0, Zb 0, Zb 0, Zb 0, Zb 0, Zb 0, Zb 0, Zb 0, Zb 0, Zb 0, Zb 0, Zb 0, Zb 0, Zb 0, Zb 0, Zb 0, Zb 0, Zb 0, Zb 0, Zb 0, Zb 0, Zb 0, Zb 0]] }, some { es := 8, n := 1, mu := true, f := Rep.lst [[Zw (stF (0)), Zw (stF (1)), Zw (stF (2)), Zw (stF (3)), Zw (stF (4)), Zw (stF (5)), Zw (stF (6)), Zw (stF (7))]] }, some { es := 1, n := n + 1 + x2.1 + 8, mu := true, f := Rep.fn fun (i j : Nat) => Zb (bif Nat.blt i (n + 1 + x2.1) then pad0 n f i else be8 (IntKind.wrap IntKind.u64 ((8 : Int) * IntKind.wrap IntKind.u64 (↑n : Int))) (i - (n + 1 + x2.1))) }]) (fun x8 => (.br (decide ((↑(padLen n - 64 * x8.1) : Int) > (0 : Int))) (.req ((0 : Int) ≤ (64 : Int) ∧ (64 : Int) ≤ (↑(padLen n - 64 * x8.1) : Int)) (.sc (true) 175 ([AV.agg [Zw (ST x8.1 (0)), Zw (ST x8.1 (1)), Zw (ST x8.1 (2)), Zw (ST x8.1 (3)), Zw (ST x8.1 (4)), Zw (ST x8.1 (5)), Zw (ST x8.1 (6)), Zw (ST x8.1 (7))], AV.isl (1) (64) fun (r k : Nat) => Zb (p (r + (0 + 64 * x8.1)))]) (AV.agg (List.map (fun (j : Nat) => Zw (ST (x8.1 + (1 : Nat)) j)) (List.range (8 : Nat)))) (.req ((0 : Int) ≤ (64 : Int) ∧ (64 : Int) ≤ (↑(padLen n - 64 * x8.1) : Int)) (.again (Again (0) (fun (x : { x : Nat // x ≤ padLen n / (64 : Nat) }) => mkSt [2, 4, 3] [AV.own (0) (32) (0) (0) (32), AV.own (1) (8) (0) (0) (8), AV.osl (2 : Nat) (1 : Nat) ((64 : Nat) * Subtype.val x) (padLen n - (64 : Nat) * Subtype.val x)] [some { es := 32, n := 1, mu := true, f := Rep.lst [[Zb 0, Zb 0, Zb 0, Zb 0, Zb 0, Zb 0, Zb 0, Zb 0, Zb 0, Zb 0, Zb 0, Zb 0, Zb 0, Zb 0, Zb 0, Zb 0, Zb 0, Zb 0, Zb 0, Zb 0, Zb 0, Zb 0, Zb 0, Zb 0, Zb 0, Zb 0, Zb 0, Zb 0, Zb 0, Zb 0, Zb 0, Zb 0]] }, some { es := (8 : Nat), n := (1 : Nat), mu := true, f := Rep.lst [List.map (fun (j : Nat) => Zw (ST (Subtype.val x) j)) (List.range (8 : Nat))] }, some { es := (1 : Nat), n := padLen n, mu := true, f := Rep.fn fun (i x : Nat) => Zb (p i) }]) (fun (x : { x : Nat // x ≤ padLen n / (64 : Nat) }) => padLen n / (64 : Nat) - Subtype.val x) x8) ([2, 4, 3]) ([0, 1, 2]) ([AV.own (0) (32) (0) (0) (32), AV.own (1) (8) (0) (0) (8), AV.osl (2) (1) (64 + 64 * x8.1) (padLen n - 64 * x8.1 - 64)]) ([some { es := 32, n := 1, mu := true, f := Rep.lst [[Zb 0, Zb 0, Zb 0, Zb 0, Zb 0, Zb 0, Zb 0, Zb 0, Zb 0, Zb 0, Zb 0, Zb 0, Zb 0, Zb 0, Zb 0, Zb 0, Zb 0, Zb 0, Zb 0, Zb 0, Zb 0, Zb 0, Zb 0, Zb 0, Zb 0, Zb 0, Zb 0, Zb 0, Zb 0, Zb 0, Zb 0, Zb 0]] }, some { es := 8, n := 1, mu := true, f := Rep.lst [[Zw (ST (x8.1 + (1 : Nat)) (0)), Zw (ST (x8.1 + (1 : Nat)) (1)), Zw (ST (x8.1 + (1 : Nat)) (2)), Zw (ST (x8.1 + (1 : Nat)) (3)), Zw (ST (x8.1 + (1 : Nat)) (4)), Zw (ST (x8.1 + (1 : Nat)) (5)), Zw (ST (x8.1 + (1 : Nat)) (6)), Zw (ST (x8.1 + (1 : Nat)) (7))]] }, some { es := 1, n := padLen n, mu := true, f := Rep.fn fun (i j : Nat) => Zb (p i) }]))))) (.loop ({ x : Nat // x ≤ (8 : Nat) }) (fun (x : { x : Nat // x ≤ (8 : Nat) }) => mkSt [2, 5, 37, 38] [AV.own (0) (32) (0) (0) (32), AV.own (1) (32) (0) (0) (32), AV.agg (List.map (fun (j : Nat) => Zw (ST (padLen n / (64 : Nat)) j)) (List.range (8 : Nat))), Zi (↑(Subtype.val x) : Int)] [some { es := 32, n := 1, mu := true, f := Rep.lst [[Zb 0, Zb 0, Zb 0, Zb 0, Zb 0, Zb 0, Zb 0, Zb 0, Zb 0, Zb 0, Zb 0, Zb 0, Zb 0, Zb 0, Zb 0, Zb 0, Zb 0, Zb 0, Zb 0, Zb 0, Zb 0, Zb 0, Zb 0, Zb 0, Zb 0, Zb 0, Zb 0, Zb 0, Zb 0, Zb 0, Zb 0, Zb 0]] }, some { es := (32 : Nat), n := (1 : Nat), mu := true, f := Rep.fn fun (x_1 j : Nat) => Zb (bif Nat.blt j ((4 : Nat) * Subtype.val x) then outF (ST (padLen n / (64 : Nat))) j else (0 : Int)) }]) (fun (x : { x : Nat // x ≤ (8 : Nat) }) => (8 : Nat) - Subtype.val x) (⟨(0 : Nat), Nat.zero_le (8 : Nat)⟩) ([2, 5, 37, 38]) ([0, 27]) ([AV.own (0) (32) (0) (0) (32), AV.own (1) (32) (0) (0) (32), AV.agg [Zw (ST x8.1 (0)), Zw (ST x8.1 (1)), Zw (ST x8.1 (2)), Zw (ST x8.1 (3)), Zw (ST x8.1 (4)), Zw (ST x8.1 (5)), Zw (ST x8.1 (6)), Zw (ST x8.1 (7))], Zi 0]) ([some { es := 32, n := 1, mu := true, f := Rep.lst [[Zb 0, Zb 0, Zb 0, Zb 0, Zb 0, Zb 0, Zb 0, Zb 0, Zb 0, Zb 0, Zb 0, Zb 0, Zb 0, Zb 0, Zb 0, Zb 0, Zb 0, Zb 0, Zb 0, Zb 0, Zb 0, Zb 0, Zb 0, Zb 0, Zb 0, Zb 0, Zb 0, Zb 0, Zb 0, Zb 0, Zb 0, Zb 0]] }, some { es := 32, n := 1, mu := true, f := Rep.lst [[Zb 0, Zb 0, Zb 0, Zb 0, Zb 0, Zb 0, Zb 0, Zb 0, Zb 0, Zb 0, Zb 0, Zb 0, Zb 0, Zb 0, Zb 0, Zb 0, Zb 0, Zb 0, Zb 0, Zb 0, Zb 0, Zb 0, Zb 0, Zb 0, Zb 0, Zb 0, Zb 0, Zb 0, Zb 0, Zb 0, Zb 0, Zb 0]] }]) (fun x14 => (.br (decide ((↑x14.1 : Int) < (8 : Int))) (.req ((0 : Int) ≤ (↑x14.1 : Int) ∧ (↑x14.1 : Int) < (↑(8) : Int)) (.loop ({ x : Nat // x ≤ (4 : Nat) }) (fun (x : { x : Nat // x ≤ (4 : Nat) }) => mkSt [2, 5, 6, 37, 38, 7, 42] [AV.own (0) (32) (0) (0) (32), AV.own (1) (32) (0) (0) (32), Zi (↑x14.1 : Int), AV.agg [Zw (ST (padLen n / 64) (0)), Zw (ST (padLen n / 64) (1)), Zw (ST (padLen n / 64) (2)), Zw (ST (padLen n / 64) (3)), Zw (ST (padLen n / 64) (4)), Zw (ST (padLen n / 64) (5)), Zw (ST (padLen n / 64) (6)), Zw (ST (padLen n / 64) (7))], Zi (↑x14.1 : Int), Zw (ST (padLen n / (64 : Nat)) (Subtype.val x14)), Zi (↑(Subtype.val x) : Int)] [some { es := 32, n := 1, mu := true, f := Rep.lst [[Zb 0, Zb 0, Zb 0, Zb 0, Zb 0, Zb 0, Zb 0, Zb 0, Zb 0, Zb 0, Zb 0, Zb 0, Zb 0, Zb 0, Zb 0, Zb 0, Zb 0, Zb 0, Zb 0, Zb 0, Zb 0, Zb 0, Zb 0, Zb 0, Zb 0, Zb 0, Zb 0, Zb 0, Zb 0, Zb 0, Zb 0, Zb 0]] }, some { es := (32 : Nat), n := (1 : Nat), mu := true, f := Rep.fn fun (x_1 j : Nat) => Zb (bif Nat.blt j ((4 : Nat) * Subtype.val x14 + Subtype.val x) then outF (ST (padLen n / (64 : Nat))) j else (0 : Int)) }]) (fun (x : { x : Nat // x ≤ (4 : Nat) }) => (4 : Nat) - Subtype.val x) (⟨(0 : Nat), Nat.zero_le (4 : Nat)⟩) ([2, 5, 6, 37, 38, 7, 42]) ([0, 1]) ([AV.own (0) (32) (0) (0) (32), AV.own (1) (32) (0) (0) (32), Zi (↑x14.1 : Int), AV.agg [Zw (ST (padLen n / 64) (0)), Zw (ST (padLen n / 64) (1)), Zw (ST (padLen n / 64) (2)), Zw (ST (padLen n / 64) (3)), Zw (ST (padLen n / 64) (4)), Zw (ST (padLen n / 64) (5)), Zw (ST (padLen n / 64) (6)), Zw (ST (padLen n / 64) (7))], Zi (↑x14.1 : Int), Zw (intOfAV (atL [Zw (ST (padLen n / 64) (0)), Zw (ST (padLen n / 64) (1)), Zw (ST (padLen n / 64) (2)), Zw (ST (padLen n / 64) (3)), Zw (ST (padLen n / 64) (4)), Zw (ST (padLen n / 64) (5)), Zw (ST (padLen n / 64) (6)), Zw (ST (padLen n / 64) (7))] (Int.toNat (↑x14.1 : Int)))), Zi 0]) ([some { es := 32, n := 1, mu := true, f := Rep.lst [[Zb 0, Zb 0, Zb 0, Zb 0, Zb 0, Zb 0, Zb 0, Zb 0, Zb 0, Zb 0, Zb 0, Zb 0, Zb 0, Zb 0, Zb 0, Zb 0, Zb 0, Zb 0, Zb 0, Zb 0, Zb 0, Zb 0, Zb 0, Zb 0, Zb 0, Zb 0, Zb 0, Zb 0, Zb 0, Zb 0, Zb 0, Zb 0]] }, some { es := 32, n := 1, mu := true, f := Rep.fn fun (i j : Nat) => Zb (bif Nat.blt j ((4 : Nat) * Subtype.val x14) then outF (ST (padLen n / (64 : Nat))) j else (0 : Int)) }]) (fun x17 => (.br (decide ((↑x17.1 : Int) < (4 : Int))) (.req ((0 : Int) ≤ IntKind.wrap IntKind.i64 ((24 : Int) - IntKind.wrap IntKind.i64 ((8 : Int) * (↑x17.1 : Int)))) (.req ((0 : Int) ≤ IntKind.wrap IntKind.i64 (IntKind.wrap IntKind.i64 ((4 : Int) * (↑x14.1 : Int)) + (↑x17.1 : Int)) ∧ IntKind.wrap IntKind.i64 (IntKind.wrap IntKind.i64 ((4 : Int) * (↑x14.1 : Int)) + (↑x17.1 : Int)) < (↑(32) : Int)) (.again (Again (0) (fun (x : { x : Nat // x ≤ (4 : Nat) }) => mkSt [2, 5, 6, 37, 38, 7, 42] [AV.own (0) (32) (0) (0) (32), AV.own (1) (32) (0) (0) (32), Zi (↑x14.1 : Int), AV.agg [Zw (ST (padLen n / 64) (0)), Zw (ST (padLen n / 64) (1)), Zw (ST (padLen n / 64) (2)), Zw (ST (padLen n / 64) (3)), Zw (ST (padLen n / 64) (4)), Zw (ST (padLen n / 64) (5)), Zw (ST (padLen n / 64) (6)), Zw (ST (padLen n / 64) (7))], Zi (↑x14.1 : Int), Zw (ST (padLen n / (64 : Nat)) (Subtype.val x14)), Zi (↑(Subtype.val x) : Int)] [some { es := 32, n := 1, mu := true, f := Rep.lst [[Zb 0, Zb 0, Zb 0, Zb 0, Zb 0, Zb 0, Zb 0, Zb 0, Zb 0, Zb 0, Zb 0, Zb 0, Zb 0, Zb 0, Zb 0, Zb 0, Zb 0, Zb 0, Zb 0, Zb 0, Zb 0, Zb 0, Zb 0, Zb 0, Zb 0, Zb 0, Zb 0, Zb 0, Zb 0, Zb 0, Zb 0, Zb 0]] }, some { es := (32 : Nat), n := (1 : Nat), mu := true, f := Rep.fn fun (x_1 j : Nat) => Zb (bif Nat.blt j ((4 : Nat) * Subtype.val x14 + Subtype.val x) then outF (ST (padLen n / (64 : Nat))) j else (0 : Int)) }]) (fun (x : { x : Nat // x ≤ (4 : Nat) }) => (4 : Nat) - Subtype.val x) x17) ([2, 5, 6, 37, 38, 7, 42]) ([0, 1]) ([AV.own (0) (32) (0) (0) (32), AV.own (1) (32) (0) (0) (32), Zi (↑x14.1 : Int), AV.agg [Zw (ST (padLen n / 64) (0)), Zw (ST (padLen n / 64) (1)), Zw (ST (padLen n / 64) (2)), Zw (ST (padLen n / 64) (3)), Zw (ST (padLen n / 64) (4)), Zw (ST (padLen n / 64) (5)), Zw (ST (padLen n / 64) (6)), Zw (ST (padLen n / 64) (7))], Zi (↑x14.1 : Int), Zw (ST (padLen n / 64) x14.1), Zi (IntKind.wrap IntKind.i64 ((↑x17.1 : Int) + (1 : Int)))]) ([some { es := 32, n := 1, mu := true, f := Rep.lst [[Zb 0, Zb 0, Zb 0, Zb 0, Zb 0, Zb 0, Zb 0, Zb 0, Zb 0, Zb 0, Zb 0, Zb 0, Zb 0, Zb 0, Zb 0, Zb 0, Zb 0, Zb 0, Zb 0, Zb 0, Zb 0, Zb 0, Zb 0, Zb 0, Zb 0, Zb 0, Zb 0, Zb 0, Zb 0, Zb 0, Zb 0, Zb 0]] }, some { es := 32, n := 1, mu := true, f := Rep.fn fun (i j : Nat) => Zb (bif Nat.beq i (0) && Nat.beq j (0 + Int.toNat (IntKind.wrap IntKind.i64 (IntKind.wrap IntKind.i64 ((4 : Int) * (↑x14.1 : Int)) + (↑x17.1 : Int)))) then IntKind.wrap IntKind.u8 (Int.fdiv (ST (padLen n / 64) x14.1) ((2 : Int) ^ min (Int.toNat (IntKind.wrap IntKind.i64 ((24 : Int) - IntKind.wrap IntKind.i64 ((8 : Int) * (↑x17.1 : Int))))) (32))) else bif Nat.blt j (4 * x14.1 + x17.1) then outF (ST (padLen n / 64)) j else (0 : Int)) }])))) (.again (Again (0) (fun (x : { x : Nat // x ≤ (8 : Nat) }) => mkSt [2, 5, 37, 38] [AV.own (0) (32) (0) (0) (32), AV.own (1) (32) (0) (0) (32), AV.agg (List.map (fun (j : Nat) => Zw (ST (padLen n / (64 : Nat)) j)) (List.range (8 : Nat))), Zi (↑(Subtype.val x) : Int)] [some { es := 32, n := 1, mu := true, f := Rep.lst [[Zb 0, Zb 0, Zb 0, Zb 0, Zb 0, Zb 0, Zb 0, Zb 0, Zb 0, Zb 0, Zb 0, Zb 0, Zb 0, Zb 0, Zb 0, Zb 0, Zb 0, Zb 0, Zb 0, Zb 0, Zb 0, Zb 0, Zb 0, Zb 0, Zb 0, Zb 0, Zb 0, Zb 0, Zb 0, Zb 0, Zb 0, Zb 0]] }, some { es := (32 : Nat), n := (1 : Nat), mu := true, f := Rep.fn fun (x_1 j : Nat) => Zb (bif Nat.blt j ((4 : Nat) * Subtype.val x) then outF (ST (padLen n / (64 : Nat))) j else (0 : Int)) }]) (fun (x : { x : Nat // x ≤ (8 : Nat) }) => (8 : Nat) - Subtype.val x) x14) ([2, 5, 37, 38]) ([0, 1]) ([AV.own (0) (32) (0) (0) (32), AV.own (1) (32) (0) (0) (32), AV.agg [Zw (ST (padLen n / 64) (0)), Zw (ST (padLen n / 64) (1)), Zw (ST (padLen n / 64) (2)), Zw (ST (padLen n / 64) (3)), Zw (ST (padLen n / 64) (4)), Zw (ST (padLen n / 64) (5)), Zw (ST (padLen n / 64) (6)), Zw (ST (padLen n / 64) (7))], Zi (IntKind.wrap IntKind.i64 ((↑x14.1 : Int) + (1 : Int)))]) ([some { es := 32, n := 1, mu := true, f := Rep.lst [[Zb 0, Zb 0, Zb 0, Zb 0, Zb 0, Zb 0, Zb 0, Zb 0, Zb 0, Zb 0, Zb 0, Zb 0, Zb 0, Zb 0, Zb 0, Zb 0, Zb 0, Zb 0, Zb 0, Zb 0, Zb 0, Zb 0, Zb 0, Zb 0, Zb 0, Zb 0, Zb 0, Zb 0, Zb 0, Zb 0, Zb 0, Zb 0]] }, some { es := 32, n := 1, mu := true, f := Rep.fn fun (i j : Nat) => Zb (bif Nat.blt j (4 * x14.1 + x17.1) then outF (ST (padLen n / 64)) j else (0 : Int)) }])))))) (.out (AV.agg [Zb (bif Nat.blt (0) (4 * x14.1) then outF (ST (padLen n / 64)) (0) else (0 : Int)), Zb (bif Nat.blt (1) (4 * x14.1) then outF (ST (padLen n / 64)) (1) else (0 : Int)), Zb (bif Nat.blt (2) (4 * x14.1) then outF (ST (padLen n / 64)) (2) else (0 : Int)), Zb (bif Nat.blt (3) (4 * x14.1) then outF (ST (padLen n / 64)) (3) else (0 : Int)), Zb (bif Nat.blt (4) (4 * x14.1) then outF (ST (padLen n / 64)) (4) else (0 : Int)), Zb (bif Nat.blt (5) (4 * x14.1) then outF (ST (padLen n / 64)) (5) else (0 : Int)), Zb (bif Nat.blt (6) (4 * x14.1) then outF (ST (padLen n / 64)) (6) else (0 : Int)), Zb (bif Nat.blt (7) (4 * x14.1) then outF (ST (padLen n / 64)) (7) else (0 : Int)), Zb (bif Nat.blt (8) (4 * x14.1) then outF (ST (padLen n / 64)) (8) else (0 : Int)), Zb (bif Nat.blt (9) (4 * x14.1) then outF (ST (padLen n / 64)) (9) else (0 : Int)), Zb (bif Nat.blt (10) (4 * x14.1) then outF (ST (padLen n / 64)) (10) else (0 : Int)), Zb (bif Nat.blt (11) (4 * x14.1) then outF (ST (padLen n / 64)) (11) else (0 : Int)), Zb (bif Nat.blt (12) (4 * x14.1) then outF (ST (padLen n / 64)) (12) else (0 : Int)), Zb (bif Nat.blt (13) (4 * x14.1) then outF (ST (padLen n / 64)) (13) else (0 : Int)), Zb (bif Nat.blt (14) (4 * x14.1) then outF (ST (padLen n / 64)) (14) else (0 : Int)), Zb (bif Nat.blt (15) (4 * x14.1) then outF (ST (padLen n / 64)) (15) else (0 : Int)), Zb (bif Nat.blt (16) (4 * x14.1) then outF (ST (padLen n / 64)) (16) else (0 : Int)), Zb (bif Nat.blt (17) (4 * x14.1) then outF (ST (padLen n / 64)) (17) else (0 : Int)), Zb (bif Nat.blt (18) (4 * x14.1) then outF (ST (padLen n / 64)) (18) else (0 : Int)), Zb (bif Nat.blt (19) (4 * x14.1) then outF (ST (padLen n / 64)) (19) else (0 : Int)), Zb (bif Nat.blt (20) (4 * x14.1) then outF (ST (padLen n / 64)) (20) else (0 : Int)), Zb (bif Nat.blt (21) (4 * x14.1) then outF (ST (padLen n / 64)) (21) else (0 : Int)), Zb (bif Nat.blt (22) (4 * x14.1) then outF (ST (padLen n / 64)) (22) else (0 : Int)), Zb (bif Nat.blt (23) (4 * x14.1) then outF (ST (padLen n / 64)) (23) else (0 : Int)), Zb (bif Nat.blt (24) (4 * x14.1) then outF (ST (padLen n / 64)) (24) else (0 : Int)), Zb (bif Nat.blt (25) (4 * x14.1) then outF (ST (padLen n / 64)) (25) else (0 : Int)), Zb (bif Nat.blt (26) (4 * x14.1) then outF (ST (padLen n / 64)) (26) else (0 : Int)), Zb (bif Nat.blt (27) (4 * x14.1) then outF (ST (padLen n / 64)) (27) else (0 : Int)), Zb (bif Nat.blt (28) (4 * x14.1) then outF (ST (padLen n / 64)) (28) else (0 : Int)), Zb (bif Nat.blt (29) (4 * x14.1) then outF (ST (padLen n / 64)) (29) else (0 : Int)), Zb (bif Nat.blt (30) (4 * x14.1) then outF (ST (padLen n / 64)) (30) else (0 : Int)), Zb (bif Nat.blt (31) (4 * x14.1) then outF (ST (padLen n / 64)) (31) else (0 : Int))]) [] (AV.agg (u8c (outF (ST (padLen n / (64 : Nat)))))) []))))))))))))))
    (by kernel_rfl) ?_
  refine k_gc (cloneB2_c (f) (n) (by first | omega | (rw [wu64 (n := (n : Int)) (by omega) (by omega), wu64 (by omega) (by omega)]; omega) | (intro i hi; exact congrArg p (by omega)))) ?_
  refine k_req (by first | omega | (simp only [Int.toNat_natCast]; omega)) ?_
  --LOOPINFO kept [0, 2] changed [3] objects [0, 32]
  --LOOPINFO   obj 0: some { es := 32, n := 1, mu := true, f := Rep.lst [[Zb 0, Zb 0, Zb 0, Zb 0, Zb 0, Zb 0, Zb 0, Zb 0, Zb 0, Zb 0, Zb 0, Zb 0, Zb 0, Zb 0, Zb 0, Zb 0, Zb 0, Zb 0, Zb 0, Zb 0, Zb 0, Zb 0, Zb 0, Zb 0, Zb 0, Zb 0, Zb 0, Zb 0, Zb 0, Zb 0, Zb 0, Zb 0]] }
  refine k_loop (fun _ hs => hs.le (by repeat' (first | exact trivial | (first | exact Ent.refl _ | exact inc_ent (by omega) | exact Ent.nil rfl | exact Ent.of_eq (congrArg (AV.osl _ _ _) (by first | omega | (dsimp only; omega))) | exact Ent.of_eq (congrArg (AV.int _) (by first | omega | (dsimp only; omega)))) | refine And.intro ?_ ?_)) (⟨by first | exact ObEnt.refl _ | exact ObEnt.junk | exact ObEnt.zero | exact ObEnt.push rfl rfl | exact ObEnt.pushRow rfl | exact ObEnt.len (by omega) | exact ObEnt.row (by repeat' (first | exact trivial | (first | exact Ent.refl _ | exact inc_ent (by omega) | exact Ent.nil rfl | exact Ent.of_eq (congrArg (AV.osl _ _ _) (by first | omega | (dsimp only; omega))) | exact Ent.of_eq (congrArg (AV.int _) (by first | omega | (dsimp only; omega)))) | refine And.intro ?_ ?_)), pad_ob, trivial⟩)) (fun x2 => ?_)
  try (have q2 := x2.2; dsimp only at q2)
  refine k_br (fun h3 => ?_) (fun h3 => ?_)
  · have g3 := cnd_bne_t h3
    refine k_req (by first | omega | (simp only [Int.toNat_natCast]; omega)) ?_
    exact k_again (⟨x2.1 + 1, pad_lt x2.2 g3⟩) (fun _ hs => hs.le (by repeat' (first | exact trivial | (first | exact Ent.refl _ | exact inc_ent (by omega) | exact Ent.nil rfl | exact Ent.of_eq (congrArg (AV.osl _ _ _) (by first | omega | (dsimp only; omega))) | exact Ent.of_eq (congrArg (AV.int _) (by first | omega | (dsimp only; omega)))) | refine And.intro ?_ ?_)) (⟨by first | exact ObEnt.refl _ | exact ObEnt.junk | exact ObEnt.zero | exact ObEnt.push rfl rfl | exact ObEnt.pushRow rfl | exact ObEnt.len (by omega) | exact ObEnt.row (by repeat' (first | exact trivial | (first | exact Ent.refl _ | exact inc_ent (by omega) | exact Ent.nil rfl | exact Ent.of_eq (congrArg (AV.osl _ _ _) (by first | omega | (dsimp only; omega))) | exact Ent.of_eq (congrArg (AV.int _) (by first | omega | (dsimp only; omega)))) | refine And.intro ?_ ?_)), ObEnt.pushF (F := pad0 n f) rfl (pad0_z (by omega)).symm, trivial⟩)) (by have := pad_lt x2.2 g3; first | omega | (dsimp only; omega))
  · have g3 := cnd_bne_f h3
    refine k_dc (count_c (IntKind.wrap IntKind.u64 ((8 : Int) * IntKind.wrap IntKind.u64 (↑n : Int))) (by first | omega | (rw [wu64 (n := (n : Int)) (by omega) (by omega), wu64 (by omega) (by omega)]; omega) | (intro i hi; exact congrArg p (by omega))) (by first | omega | (rw [wu64 (n := (n : Int)) (by omega) (by omega), wu64 (by omega) (by omega)]; omega) | (intro i hi; exact congrArg p (by omega)))) ?_
    refine k_req (by first | omega | (simp only [Int.toNat_natCast]; omega)) ?_
    --LOOPINFO kept [2, 4] changed [3] objects [0, 106, 82]
    --LOOPINFO   obj 0: some { es := 32, n := 1, mu := true, f := Rep.lst [[Zb 0, Zb 0, Zb 0, Zb 0, Zb 0, Zb 0, Zb 0, Zb 0, Zb 0, Zb 0, Zb 0, Zb 0, Zb 0, Zb 0, Zb 0, Zb 0, Zb 0, Zb 0, Zb 0, Zb 0, Zb 0, Zb 0, Zb 0, Zb 0, Zb 0, Zb 0, Zb 0, Zb 0, Zb 0, Zb 0, Zb 0, Zb 0]] }
    refine k_loop (fun _ hs => hs.le (⟨by first | exact Ent.refl _ | exact inc_ent (by omega) | exact Ent.nil rfl | exact Ent.of_eq (congrArg (AV.osl _ _ _) (by first | omega | (dsimp only; omega))) | exact Ent.of_eq (congrArg (AV.int _) (by first | omega | (dsimp only; omega))), by first | exact Ent.refl _ | exact inc_ent (by omega) | exact Ent.nil rfl | exact Ent.of_eq (congrArg (AV.osl _ _ _) (by first | omega | (dsimp only; omega))) | exact Ent.of_eq (congrArg (AV.int _) (by first | omega | (dsimp only; omega))), Ent.of_eq (congrArg (AV.osl 2 1 0) (pad_fin x2.2 g3)), trivial⟩) (⟨by first | exact ObEnt.refl _ | exact ObEnt.junk | exact ObEnt.zero | exact ObEnt.push rfl rfl | exact ObEnt.pushRow rfl | exact ObEnt.len (by omega) | exact ObEnt.row (by repeat' (first | exact trivial | (first | exact Ent.refl _ | exact inc_ent (by omega) | exact Ent.nil rfl | exact Ent.of_eq (congrArg (AV.osl _ _ _) (by first | omega | (dsimp only; omega))) | exact Ent.of_eq (congrArg (AV.int _) (by first | omega | (dsimp only; omega)))) | refine And.intro ?_ ?_)), ObEnt.row (by show EntL _ _ ((List.range 8).map fun j => .int .u32 (ST 0 j)); rw [h0]; exact EntL.refl _), by rw [hp]; exact pad_ob2 hn (pad_fin x2.2 g3), trivial⟩)) (fun x8 => ?_)
    try (have q8 := x8.2; dsimp only at q8)
    refine k_br (fun h9 => ?_) (fun h9 => ?_)
    · have g9 := cnd_dec_t h9
      refine k_req (by first | omega | (simp only [Int.toNat_natCast]; omega)) ?_
      refine k_sc (hmix (x8.1) (fun (i : Nat) => p (i + (0 + 64 * x8.1))) (by first | omega | (rw [wu64 (n := (n : Int)) (by omega) (by omega), wu64 (by omega) (by omega)]; omega) | (intro i hi; exact congrArg p (by omega)))) ?_
      refine k_req (by first | omega | (simp only [Int.toNat_natCast]; omega)) ?_
      exact k_again (⟨x8.1 + 1, by omega⟩) (fun _ hs => hs.le (⟨by first | exact Ent.refl _ | exact inc_ent (by omega) | exact Ent.nil rfl | exact Ent.of_eq (congrArg (AV.osl _ _ _) (by first | omega | (dsimp only; omega))) | exact Ent.of_eq (congrArg (AV.int _) (by first | omega | (dsimp only; omega))), by first | exact Ent.refl _ | exact inc_ent (by omega) | exact Ent.nil rfl | exact Ent.of_eq (congrArg (AV.osl _ _ _) (by first | omega | (dsimp only; omega))) | exact Ent.of_eq (congrArg (AV.int _) (by first | omega | (dsimp only; omega))), Ent.of_eq (by show AV.osl 2 1 (64 + 64 * x8.1) (padLen n - 64 * x8.1 - 64) = AV.osl 2 1 (64 * (x8.1 + 1)) (padLen n - 64 * (x8.1 + 1)); congr 1 <;> omega), trivial⟩) (by repeat' (first | exact trivial | (first | exact ObEnt.refl _ | exact ObEnt.junk | exact ObEnt.zero | exact ObEnt.push rfl rfl | exact ObEnt.pushRow rfl | exact ObEnt.len (by omega) | exact ObEnt.row (by repeat' (first | exact trivial | (first | exact Ent.refl _ | exact inc_ent (by omega) | exact Ent.nil rfl | exact Ent.of_eq (congrArg (AV.osl _ _ _) (by first | omega | (dsimp only; omega))) | exact Ent.of_eq (congrArg (AV.int _) (by first | omega | (dsimp only; omega)))) | refine And.intro ?_ ?_))) | refine And.intro ?_ ?_))) (by first | omega | (dsimp only; omega) | (simp; omega))
    · have g9 := cnd_dec_f h9
      --LOOPINFO kept [2, 5] changed [37, 38] objects [0, 27]
      --LOOPINFO   obj 0: some { es := 32, n := 1, mu := true, f := Rep.lst [[Zb 0, Zb 0, Zb 0, Zb 0, Zb 0, Zb 0, Zb 0, Zb 0, Zb 0, Zb 0, Zb 0, Zb 0, Zb 0, Zb 0, Zb 0, Zb 0, Zb 0, Zb 0, Zb 0, Zb 0, Zb 0, Zb 0, Zb 0, Zb 0, Zb 0, Zb 0, Zb 0, Zb 0, Zb 0, Zb 0, Zb 0, Zb 0]] }
      refine k_loop (fun _ hs => hs.le (⟨by first | exact Ent.refl _ | exact inc_ent (by omega) | exact Ent.nil rfl | exact Ent.of_eq (congrArg (AV.osl _ _ _) (by first | omega | (dsimp only; omega))) | exact Ent.of_eq (congrArg (AV.int _) (by first | omega | (dsimp only; omega))), by first | exact Ent.refl _ | exact inc_ent (by omega) | exact Ent.nil rfl | exact Ent.of_eq (congrArg (AV.osl _ _ _) (by first | omega | (dsimp only; omega))) | exact Ent.of_eq (congrArg (AV.int _) (by first | omega | (dsimp only; omega))), Ent.of_eq (by
                                                                                                     have e : x8.1 = padLen n / 64 := by omega
                                                                                                     rw [e]
                                                                                                     rfl), by first | exact Ent.refl _ | exact inc_ent (by omega) | exact Ent.nil rfl | exact Ent.of_eq (congrArg (AV.osl _ _ _) (by first | omega | (dsimp only; omega))) | exact Ent.of_eq (congrArg (AV.int _) (by first | omega | (dsimp only; omega))), trivial⟩) (⟨by first | exact ObEnt.refl _ | exact ObEnt.junk | exact ObEnt.zero | exact ObEnt.push rfl rfl | exact ObEnt.pushRow rfl | exact ObEnt.len (by omega) | exact ObEnt.row (by repeat' (first | exact trivial | (first | exact Ent.refl _ | exact inc_ent (by omega) | exact Ent.nil rfl | exact Ent.of_eq (congrArg (AV.osl _ _ _) (by first | omega | (dsimp only; omega))) | exact Ent.of_eq (congrArg (AV.int _) (by first | omega | (dsimp only; omega)))) | refine And.intro ?_ ?_)), zero_ob32 (fun j => rfl), trivial⟩)) (fun x14 => ?_)
      refine k_br (fun h15 => ?_) (fun h15 => ?_)
      · have g15 := cnd_dec_t h15
        refine k_req (by first | omega | (simp only [Int.toNat_natCast]; omega)) ?_
        --LOOPINFO kept [2, 5, 6, 37, 38] changed [7, 42] objects [0, 1]
        --LOOPINFO   obj 0: some { es := 32, n := 1, mu := true, f := Rep.lst [[Zb 0, Zb 0, Zb 0, Zb 0, Zb 0, Zb 0, Zb 0, Zb 0, Zb 0, Zb 0, Zb 0, Zb 0, Zb 0, Zb 0, Zb 0, Zb 0, Zb 0, Zb 0, Zb 0, Zb 0, Zb 0, Zb 0, Zb 0, Zb 0, Zb 0, Zb 0, Zb 0, Zb 0, Zb 0, Zb 0, Zb 0, Zb 0]] }
        refine k_loop (fun _ hs => hs.le (⟨by first | exact Ent.refl _ | exact inc_ent (by omega) | exact Ent.nil rfl | exact Ent.of_eq (congrArg (AV.osl _ _ _) (by first | omega | (dsimp only; omega))) | exact Ent.of_eq (congrArg (AV.int _) (by first | omega | (dsimp only; omega))), by first | exact Ent.refl _ | exact inc_ent (by omega) | exact Ent.nil rfl | exact Ent.of_eq (congrArg (AV.osl _ _ _) (by first | omega | (dsimp only; omega))) | exact Ent.of_eq (congrArg (AV.int _) (by first | omega | (dsimp only; omega))), by first | exact Ent.refl _ | exact inc_ent (by omega) | exact Ent.nil rfl | exact Ent.of_eq (congrArg (AV.osl _ _ _) (by first | omega | (dsimp only; omega))) | exact Ent.of_eq (congrArg (AV.int _) (by first | omega | (dsimp only; omega))), by first | exact Ent.refl _ | exact inc_ent (by omega) | exact Ent.nil rfl | exact Ent.of_eq (congrArg (AV.osl _ _ _) (by first | omega | (dsimp only; omega))) | exact Ent.of_eq (congrArg (AV.int _) (by first | omega | (dsimp only; omega))), by first | exact Ent.refl _ | exact inc_ent (by omega) | exact Ent.nil rfl | exact Ent.of_eq (congrArg (AV.osl _ _ _) (by first | omega | (dsimp only; omega))) | exact Ent.of_eq (congrArg (AV.int _) (by first | omega | (dsimp only; omega))), Ent.of_eq (congrArg _ (congrArg intOfAV (atL_map_range (es := 8) (g := fun j => AV.int .u32 (ST (padLen n / 64) j)) (by omega)))), by first | exact Ent.refl _ | exact inc_ent (by omega) | exact Ent.nil rfl | exact Ent.of_eq (congrArg (AV.osl _ _ _) (by first | omega | (dsimp only; omega))) | exact Ent.of_eq (congrArg (AV.int _) (by first | omega | (dsimp only; omega))), trivial⟩) (by repeat' (first | exact trivial | (first | exact ObEnt.refl _ | exact ObEnt.junk | exact ObEnt.zero | exact ObEnt.push rfl rfl | exact ObEnt.pushRow rfl | exact ObEnt.len (by omega) | exact ObEnt.row (by repeat' (first | exact trivial | (first | exact Ent.refl _ | exact inc_ent (by omega) | exact Ent.nil rfl | exact Ent.of_eq (congrArg (AV.osl _ _ _) (by first | omega | (dsimp only; omega))) | exact Ent.of_eq (congrArg (AV.int _) (by first | omega | (dsimp only; omega)))) | refine And.intro ?_ ?_))) | refine And.intro ?_ ?_))) (fun x17 => ?_)
        try (have q17 := x17.2; dsimp only at q17)
        refine k_br (fun h18 => ?_) (fun h18 => ?_)
        · have g18 := cnd_dec_t h18
          refine k_req (by rw [wI (n := 8 * (x17.1 : Int)) (by omega) (by omega), wI (by omega) (by omega)]; omega) ?_
          refine k_req (by rw [w4k (by omega) (by omega)]; omega) ?_
          exact k_again (⟨x17.1 + 1, by omega⟩) (fun _ hs => hs.le (by repeat' (first | exact trivial | (first | exact Ent.refl _ | exact inc_ent (by omega) | exact Ent.nil rfl | exact Ent.of_eq (congrArg (AV.osl _ _ _) (by first | omega | (dsimp only; omega))) | exact Ent.of_eq (congrArg (AV.int _) (by first | omega | (dsimp only; omega)))) | refine And.intro ?_ ?_)) (⟨by first | exact ObEnt.refl _ | exact ObEnt.junk | exact ObEnt.zero | exact ObEnt.push rfl rfl | exact ObEnt.pushRow rfl | exact ObEnt.len (by omega) | exact ObEnt.row (by repeat' (first | exact trivial | (first | exact Ent.refl _ | exact inc_ent (by omega) | exact Ent.nil rfl | exact Ent.of_eq (congrArg (AV.osl _ _ _) (by first | omega | (dsimp only; omega))) | exact Ent.of_eq (congrArg (AV.int _) (by first | omega | (dsimp only; omega)))) | refine And.intro ?_ ?_)), ObEnt.setR (P := fun i j => Nat.beq i 0 && Nat.beq j (0 + Int.toNat (IntKind.wrap .i64 (IntKind.wrap .i64 (4 * (x14.1 : Int)) + (x17.1 : Int))))) (c0 := 4 * x14.1 + x17.1) (G := fun j => bif Nat.blt j (4 * x14.1 + x17.1 + 1) then outF (ST (padLen n / 64)) j else 0) (fun j _ => by show (true && Nat.beq j (0 + Int.toNat _)) = _; rw [w4k (by omega) (by omega), Nat.zero_add, show Int.toNat (4 * (x14.1 : Int) + x17.1) = 4 * x14.1 + x17.1 by omega]; rfl) (by rw [blt_t (Nat.lt_succ_self _)]; exact out_w (by omega) (by omega)) (fun j _ he => fill_step he), trivial⟩)) (by first | omega | (dsimp only; omega) | (simp; omega))
        · have g18 := cnd_dec_f h18
          exact k_again (⟨x14.1 + 1, by omega⟩) (fun _ hs => hs.le (by repeat' (first | exact trivial | (first | exact Ent.refl _ | exact inc_ent (by omega) | exact Ent.nil rfl | exact Ent.of_eq (congrArg (AV.osl _ _ _) (by first | omega | (dsimp only; omega))) | exact Ent.of_eq (congrArg (AV.int _) (by first | omega | (dsimp only; omega)))) | refine And.intro ?_ ?_)) (⟨by first | exact ObEnt.refl _ | exact ObEnt.junk | exact ObEnt.zero | exact ObEnt.push rfl rfl | exact ObEnt.pushRow rfl | exact ObEnt.len (by omega) | exact ObEnt.row (by repeat' (first | exact trivial | (first | exact Ent.refl _ | exact inc_ent (by omega) | exact Ent.nil rfl | exact Ent.of_eq (congrArg (AV.osl _ _ _) (by first | omega | (dsimp only; omega))) | exact Ent.of_eq (congrArg (AV.int _) (by first | omega | (dsimp only; omega)))) | refine And.intro ?_ ?_)), ObEnt.fnR (fun j hj => by
                                                                                                     have e : x17.1 = 4 := by omega
                                                                                                     rw [e]
                                                                                                     rfl), trivial⟩)) (by first | omega | (dsimp only; omega) | (simp; omega))
      · have g15 := cnd_dec_f h15
        exact k_out (Ent.of_eq (by
                                                                                                     show AV.agg ((List.range 32).map fun j => .int .u8 (bif Nat.blt j (4 * x14.1) then outF (ST (padLen n / 64)) j else 0)) = AV.agg ((List.range 32).map fun j => .int .u8 (outF (ST (padLen n / 64)) j))
                                                                                                     exact congrArg AV.agg (List.map_congr_left fun j hj => by rw [blt_t (by have := List.mem_range.1 hj; omega)]; rfl)))

theorem sum_c (f : Nat → Int) (n : Nat) (hn : n ≤ 1099511627776) (hf : byB f n) : Pure Tryz.prog gl0 155 [bys n f] (.agg (u8c (shaF n f))) :=
  sum_r f n hn (padF n f) (stateF (padF n f)) rfl rfl (fun k q hq => Pure.via (mix_c (stateF (padF n f) k) (fun i => padF n f (64 * k + i)) (fun i _ => pad_by hf _)) ⟨Ent.refl _, bys_eq rfl hq, trivial⟩)

end Go.Proofs.YtmhipmiacghgeaaGreatDoor

namespace Go.Proofs.YtmhipmiacghgeaaGreatDoor
open Go Go.Am Go.Sp
set_option maxRecDepth 100000

theorem constants_c : Pure Tryz.prog gl0 164 [] (.isl 1 64 fun i _ => .int .u32 (kF i)) := by
  refine pure_sk (own := ow0) Tryz.func164 (by kernel_rfl) mixed (by kernel_rfl)
    (.out (AV.isl (1) (64) fun (r k : Nat) => atL (List.getD [[Zw 1116352408], [Zw 1899447441], [Zw 3049323471], [Zw 3921009573], [Zw 961987163], [Zw 1508970993], [Zw 2453635748], [Zw 2870763221], [Zw 3624381080], [Zw 310598401], [Zw 607225278], [Zw 1426881987], [Zw 1925078388], [Zw 2162078206], [Zw 2614888103], [Zw 3248222580], [Zw 3835390401], [Zw 4022224774], [Zw 264347078], [Zw 604807628], [Zw 770255983], [Zw 1249150122], [Zw 1555081692], [Zw 1996064986], [Zw 2554220882], [Zw 2821834349], [Zw 2952996808], [Zw 3210313671], [Zw 3336571891], [Zw 3584528711], [Zw 113926993], [Zw 338241895], [Zw 666307205], [Zw 773529912], [Zw 1294757372], [Zw 1396182291], [Zw 1695183700], [Zw 1986661051], [Zw 2177026350], [Zw 2456956037], [Zw 2730485921], [Zw 2820302411], [Zw 3259730800], [Zw 3345764771], [Zw 3516065817], [Zw 3600352804], [Zw 4094571909], [Zw 275423344], [Zw 430227734], [Zw 506948616], [Zw 659060556], [Zw 883997877], [Zw 958139571], [Zw 1322822218], [Zw 1537002063], [Zw 1747873779], [Zw 1955562222], [Zw 2024104815], [Zw 2227730452], [Zw 2361852424], [Zw 2428436474], [Zw 2756734187], [Zw 3204031479], [Zw 3329325298]] (r + 0) []) k) [] (AV.isl (1 : Nat) (64 : Nat) fun (i x : Nat) => Zw (kF i)) [])
    (by kernel_rfl) ?_
  exact k_out (Ent.isl (fun r j hr hj => by (obtain rfl : j = 0 := Nat.lt_one_iff.1 hj); exact getD_rows (l := kL) (k := .u32) hr))

theorem padded_c (f : Nat → Int) (n : Nat) (hn : n ≤ 1099511627776) : Pure Tryz.prog gl0 165 [bys n f] (bys (padLen n) (padF n f)) := by
  have pl := pad_len n
  refine pure_sk (own := ow0) Tryz.func165 (by kernel_rfl) mixed (by kernel_rfl)
    (.req ((0 + n) * 1 ≤ 140737488355328) (.req ((0 + n + 1) * 1 ≤ 140737488355328) (.loop ({ x : Nat // x ≤ padLen n - n - (9 : Nat) }) (fun (x : { x : Nat // x ≤ padLen n - n - (9 : Nat) }) => mkSt [0, 3] [AV.isl (1) n fun (i x : Nat) => Zb (f i), AV.osl (0 : Nat) (1 : Nat) (0 : Nat) (n + (1 : Nat) + Subtype.val x)] [some { es := (1 : Nat), n := n + (1 : Nat) + Subtype.val x, mu := true, f := Rep.fn fun (i x : Nat) => Zb (pad0 n f i) }]) (fun (x : { x : Nat // x ≤ padLen n - n - (9 : Nat) }) => padLen n - n - (9 : Nat) - Subtype.val x) (⟨(0 : Nat), Nat.zero_le (padLen n - n - (9 : Nat))⟩) ([0, 3]) ([40]) ([AV.isl (1) n fun (i x : Nat) => Zb (f i), AV.osl (0) (1) (0) (0 + n + 1)]) ([some { es := 1, n := 0 + n + 1, mu := true, f := Rep.fn fun (i j : Nat) => Zb (bif Nat.blt i (0 + n) then f i else intOfAV (atL [Zb 128] j)) }]) (fun x2 => (.br (Int.tmod (↑(n + 1 + x2.1) : Int) (64 : Int) != (56 : Int)) (.req ((n + 1 + x2.1 + 1) * 1 ≤ 140737488355328) (.again (Again (0) (fun (x : { x : Nat // x ≤ padLen n - n - (9 : Nat) }) => mkSt [0, 3] [AV.isl (1) n fun (i x : Nat) => Zb (f i), AV.osl (0 : Nat) (1 : Nat) (0 : Nat) (n + (1 : Nat) + Subtype.val x)] [some { es := (1 : Nat), n := n + (1 : Nat) + Subtype.val x, mu := true, f := Rep.fn fun (i x : Nat) => Zb (pad0 n f i) }]) (fun (x : { x : Nat // x ≤ padLen n - n - (9 : Nat) }) => padLen n - n - (9 : Nat) - Subtype.val x) x2) ([0, 3]) ([49]) ([AV.isl (1) n fun (i x : Nat) => Zb (f i), AV.osl (0) (1) (0) (n + 1 + x2.1 + 1)]) ([some { es := 1, n := n + 1 + x2.1 + 1, mu := true, f := Rep.fn fun (i j : Nat) => Zb (bif Nat.blt i (n + 1 + x2.1) then pad0 n f i else intOfAV (atL [Zb 0] j)) }]))) (.dc (true) 182 ([Zi (IntKind.wrap IntKind.i64 ((8 : Int) * (↑n : Int)))]) (bys (8 : Nat) (be8 (IntKind.wrap IntKind.i64 ((8 : Int) * (↑n : Int))))) (.req ((n + 1 + x2.1 + 8) * 1 ≤ 140737488355328) (.out (AV.isl (1) (n + 1 + x2.1 + 8) fun (r k : Nat) => Zb (bif Nat.blt (r + 0) (n + 1 + x2.1) then pad0 n f (r + 0) else be8 (IntKind.wrap IntKind.i64 ((8 : Int) * (↑n : Int))) (r + 0 - (n + 1 + x2.1)))) [] (bys (padLen n) (padF n f)) []))))))))
    (by kernel_rfl) ?_
  refine k_req (by first | omega | (simp only [Int.toNat_natCast]; omega)) ?_
  refine k_req (by first | omega | (simp only [Int.toNat_natCast]; omega)) ?_
  --LOOPINFO kept [0] changed [3] objects [40]
  refine k_loop (fun _ hs => hs.le (⟨by first | exact Ent.refl _ | exact inc_ent (by omega) | exact Ent.nil rfl | exact Ent.of_eq (congrArg (AV.osl _ _ _) (by first | omega | (dsimp only; omega))) | exact Ent.of_eq (congrArg (AV.int _) (by first | omega | (dsimp only; omega))), Ent.of_eq (congrArg (AV.osl 0 1 0) (by dsimp only; omega)), trivial⟩) (⟨by rw [show 0 + n = n from Nat.zero_add n]; exact pad_ob, trivial⟩)) (fun x2 => ?_)
  try (have q2 := x2.2; dsimp only at q2)
  refine k_br (fun h3 => ?_) (fun h3 => ?_)
  · have g3 := cnd_bne_t h3
    refine k_req (by first | omega | (simp only [Int.toNat_natCast]; omega)) ?_
    exact k_again (⟨x2.1 + 1, pad_lt x2.2 g3⟩) (fun _ hs => hs.le (by repeat' (first | exact trivial | (first | exact Ent.refl _ | exact inc_ent (by omega) | exact Ent.nil rfl | exact Ent.of_eq (congrArg (AV.osl _ _ _) (by first | omega | (dsimp only; omega))) | exact Ent.of_eq (congrArg (AV.int _) (by first | omega | (dsimp only; omega)))) | refine And.intro ?_ ?_)) (⟨ObEnt.pushF (F := pad0 n f) rfl (pad0_z (by omega)).symm, trivial⟩)) (by have := pad_lt x2.2 g3; first | omega | (dsimp only; omega))
  · have g3 := cnd_bne_f h3
    refine k_dc (rbytes_c (IntKind.wrap IntKind.i64 ((8 : Int) * (↑n : Int))) (by rw [wI (by omega) (by omega)]; omega) (by rw [wI (by omega) (by omega)]; omega)) ?_
    refine k_req (by first | omega | (simp only [Int.toNat_natCast]; omega)) ?_
    exact k_out (bys_eq (pad_fin x2.2 g3) (fun i hi => by rw [wI (by omega) (by omega)]; exact pad_eq (pad_fin x2.2 g3) i))

theorem rwords_c (b : Nat → Int) (hb : byB b 64) : Pure Tryz.prog gl0 166 [bys 64 b] (.isl 1 64 fun i _ => .int .u32 (wordF b i)) := by
  refine pure_sk (own := ow0) Tryz.func166 (by kernel_rfl) mixed (by kernel_rfl)
    (.loop ({ x : Nat // x ≤ (16 : Nat) }) (fun (x : { x : Nat // x ≤ (16 : Nat) }) => mkSt [0, 3, 4] [AV.isl (1) (64) fun (i x : Nat) => Zb (b i), AV.osl (0 : Nat) (1 : Nat) (0 : Nat) (Subtype.val x), Zi (↑(Subtype.val x) : Int)] [some { es := (1 : Nat), n := Subtype.val x, mu := true, f := Rep.fn fun (q x : Nat) => Zw (be4 b q) }]) (fun (x : { x : Nat // x ≤ (16 : Nat) }) => (16 : Nat) - Subtype.val x) (⟨(0 : Nat), Nat.zero_le (16 : Nat)⟩) ([0, 3, 4]) ([280]) ([AV.isl (1) (64) fun (i x : Nat) => Zb (b i), AV.nsl, Zi 0]) ([some { es := 1, n := 0, mu := true, f := Rep.lst [] }]) (fun x0 => (.br (decide ((↑x0.1 : Int) < (16 : Int))) (.loop ({ x : Nat // x ≤ (4 : Nat) }) (fun (x : { x : Nat // x ≤ (4 : Nat) }) => mkSt [0, 3, 4, 5, 6] [AV.isl (1) (64) fun (i x : Nat) => Zb (b i), AV.osl (0) (1) (0) x0.1, Zi (↑x0.1 : Int), Zw (preB b (Subtype.val x0) (Subtype.val x)), Zi (↑(Subtype.val x) : Int)] [some { es := 1, n := x0.1, mu := true, f := Rep.fn fun (i j : Nat) => Zw (be4 b i) }]) (fun (x : { x : Nat // x ≤ (4 : Nat) }) => (4 : Nat) - Subtype.val x) (⟨(0 : Nat), Nat.zero_le (4 : Nat)⟩) ([0, 3, 4, 5, 6]) ([0]) ([AV.isl (1) (64) fun (i x : Nat) => Zb (b i), AV.osl (0) (1) (0) x0.1, Zi (↑x0.1 : Int), Zw 0, Zi 0]) ([some { es := 1, n := x0.1, mu := true, f := Rep.fn fun (i j : Nat) => Zw (be4 b i) }]) (fun x2 => (.br (decide ((↑x2.1 : Int) < (4 : Int))) (.req ((0 : Int) ≤ IntKind.wrap IntKind.i64 (IntKind.wrap IntKind.i64 ((4 : Int) * (↑x0.1 : Int)) + (↑x2.1 : Int)) ∧ IntKind.wrap IntKind.i64 (IntKind.wrap IntKind.i64 ((4 : Int) * (↑x0.1 : Int)) + (↑x2.1 : Int)) < (↑(64) : Int)) (.again (Again (0) (fun (x : { x : Nat // x ≤ (4 : Nat) }) => mkSt [0, 3, 4, 5, 6] [AV.isl (1) (64) fun (i x : Nat) => Zb (b i), AV.osl (0) (1) (0) x0.1, Zi (↑x0.1 : Int), Zw (preB b (Subtype.val x0) (Subtype.val x)), Zi (↑(Subtype.val x) : Int)] [some { es := 1, n := x0.1, mu := true, f := Rep.fn fun (i j : Nat) => Zw (be4 b i) }]) (fun (x : { x : Nat // x ≤ (4 : Nat) }) => (4 : Nat) - Subtype.val x) x2) ([0, 3, 4, 5, 6]) ([0]) ([AV.isl (1) (64) fun (i x : Nat) => Zb (b i), AV.osl (0) (1) (0) x0.1, Zi (↑x0.1 : Int), Zw (IntKind.wrap IntKind.u32 (IntKind.wrap IntKind.u32 (preB b x0.1 x2.1 * (256 : Int)) + IntKind.wrap IntKind.u32 (b (Int.toNat (IntKind.wrap IntKind.i64 (IntKind.wrap IntKind.i64 ((4 : Int) * (↑x0.1 : Int)) + (↑x2.1 : Int))))))), Zi (IntKind.wrap IntKind.i64 ((↑x2.1 : Int) + (1 : Int)))]) ([some { es := 1, n := x0.1, mu := true, f := Rep.fn fun (i j : Nat) => Zw (be4 b i) }]))) (.req ((x0.1 + 1) * 4 ≤ 140737488355328) (.again (Again (0) (fun (x : { x : Nat // x ≤ (16 : Nat) }) => mkSt [0, 3, 4] [AV.isl (1) (64) fun (i x : Nat) => Zb (b i), AV.osl (0 : Nat) (1 : Nat) (0 : Nat) (Subtype.val x), Zi (↑(Subtype.val x) : Int)] [some { es := (1 : Nat), n := Subtype.val x, mu := true, f := Rep.fn fun (q x : Nat) => Zw (be4 b q) }]) (fun (x : { x : Nat // x ≤ (16 : Nat) }) => (16 : Nat) - Subtype.val x) x0) ([0, 3, 4]) ([41]) ([AV.isl (1) (64) fun (i x : Nat) => Zb (b i), AV.osl (0) (1) (0) (x0.1 + 1), Zi (IntKind.wrap IntKind.i64 ((↑x0.1 : Int) + (1 : Int)))]) ([some { es := 1, n := x0.1 + 1, mu := true, f := Rep.fn fun (i j : Nat) => Zw (bif Nat.blt i x0.1 then be4 b i else intOfAV (atL [Zw (preB b (Subtype.val x0) (Subtype.val x2))] j)) }])))))) (.loop ({ x : Nat // x ≤ (48 : Nat) }) (fun (x : { x : Nat // x ≤ (48 : Nat) }) => mkSt [3, 7] [AV.osl (0 : Nat) (1 : Nat) (0 : Nat) ((16 : Nat) + Subtype.val x), Zi (↑((16 : Nat) + Subtype.val x) : Int)] [some { es := (1 : Nat), n := (16 : Nat) + Subtype.val x, mu := true, f := Rep.fn fun (q x : Nat) => Zw (wordF b q) }]) (fun (x : { x : Nat // x ≤ (48 : Nat) }) => (48 : Nat) - Subtype.val x) (⟨(0 : Nat), Nat.zero_le (48 : Nat)⟩) ([3, 7]) ([0]) ([AV.osl (0) (1) (0) x0.1, Zi 16]) ([some { es := 1, n := x0.1, mu := true, f := Rep.fn fun (i j : Nat) => Zw (be4 b i) }]) (fun x8 => (.br (decide ((↑(16 + x8.1) : Int) < (64 : Int))) (.req ((0 : Int) ≤ IntKind.wrap IntKind.i64 ((↑(16 + x8.1) : Int) - (15 : Int)) ∧ IntKind.wrap IntKind.i64 ((↑(16 + x8.1) : Int) - (15 : Int)) < (↑(16 + x8.1) : Int)) (.req ((0 : Int) ≤ IntKind.wrap IntKind.i64 ((↑(16 + x8.1) : Int) - (2 : Int)) ∧ IntKind.wrap IntKind.i64 ((↑(16 + x8.1) : Int) - (2 : Int)) < (↑(16 + x8.1) : Int)) (.sc (true) 167 ([Zw (wordF b (Int.toNat (IntKind.wrap IntKind.i64 ((↑(16 + x8.1) : Int) - (15 : Int))) + 0)), Zi 7]) (Zw (rotr (wordF b (Int.toNat (IntKind.wrap IntKind.i64 ((↑(16 + x8.1) : Int) - (15 : Int))) + 0)) (7 : Nat))) (.sc (true) 167 ([Zw (wordF b (Int.toNat (IntKind.wrap IntKind.i64 ((↑(16 + x8.1) : Int) - (15 : Int))) + 0)), Zi 18]) (Zw (rotr (wordF b (Int.toNat (IntKind.wrap IntKind.i64 ((↑(16 + x8.1) : Int) - (15 : Int))) + 0)) (18 : Nat))) (.sc (true) 167 ([Zw (wordF b (Int.toNat (IntKind.wrap IntKind.i64 ((↑(16 + x8.1) : Int) - (2 : Int))) + 0)), Zi 17]) (Zw (rotr (wordF b (Int.toNat (IntKind.wrap IntKind.i64 ((↑(16 + x8.1) : Int) - (2 : Int))) + 0)) (17 : Nat))) (.sc (true) 167 ([Zw (wordF b (Int.toNat (IntKind.wrap IntKind.i64 ((↑(16 + x8.1) : Int) - (2 : Int))) + 0)), Zi 19]) (Zw (rotr (wordF b (Int.toNat (IntKind.wrap IntKind.i64 ((↑(16 + x8.1) : Int) - (2 : Int))) + 0)) (19 : Nat))) (.req ((0 : Int) ≤ IntKind.wrap IntKind.i64 ((↑(16 + x8.1) : Int) - (16 : Int)) ∧ IntKind.wrap IntKind.i64 ((↑(16 + x8.1) : Int) - (16 : Int)) < (↑(16 + x8.1) : Int)) (.req ((0 : Int) ≤ IntKind.wrap IntKind.i64 ((↑(16 + x8.1) : Int) - (7 : Int)) ∧ IntKind.wrap IntKind.i64 ((↑(16 + x8.1) : Int) - (7 : Int)) < (↑(16 + x8.1) : Int)) (.req ((16 + x8.1 + 1) * 4 ≤ 140737488355328) (.again (Again (0) (fun (x : { x : Nat // x ≤ (48 : Nat) }) => mkSt [3, 7] [AV.osl (0 : Nat) (1 : Nat) (0 : Nat) ((16 : Nat) + Subtype.val x), Zi (↑((16 : Nat) + Subtype.val x) : Int)] [some { es := (1 : Nat), n := (16 : Nat) + Subtype.val x, mu := true, f := Rep.fn fun (q x : Nat) => Zw (wordF b q) }]) (fun (x : { x : Nat // x ≤ (48 : Nat) }) => (48 : Nat) - Subtype.val x) x8) ([3, 7]) ([393]) ([AV.osl (0) (1) (0) (16 + x8.1 + 1), Zi (IntKind.wrap IntKind.i64 ((↑(16 + x8.1) : Int) + (1 : Int)))]) ([some { es := 1, n := 16 + x8.1 + 1, mu := true, f := Rep.fn fun (i j : Nat) => Zw (bif Nat.blt i (16 + x8.1) then wordF b i else intOfAV (atL [Zw (IntKind.wrap IntKind.u32 (IntKind.wrap IntKind.u32 (IntKind.wrap IntKind.u32 (wordF b (Int.toNat (IntKind.wrap IntKind.i64 ((↑(16 + x8.1) : Int) - (16 : Int))) + 0) + IntKind.wrap IntKind.u32 (↑(BitVec.toNat (BitVec.ofInt (32) (IntKind.wrap IntKind.u32 (↑(BitVec.toNat (BitVec.ofInt (32) (rotr (wordF b (Int.toNat (IntKind.wrap IntKind.i64 ((↑(16 + x8.1) : Int) - (15 : Int))) + 0)) (7)) ^^^ BitVec.ofInt (32) (rotr (wordF b (Int.toNat (IntKind.wrap IntKind.i64 ((↑(16 + x8.1) : Int) - (15 : Int))) + 0)) (18)))) : Int)) ^^^ BitVec.ofInt (32) (Int.fdiv (wordF b (Int.toNat (IntKind.wrap IntKind.i64 ((↑(16 + x8.1) : Int) - (15 : Int))) + 0)) ((2 : Int) ^ 3)))) : Int)) + wordF b (Int.toNat (IntKind.wrap IntKind.i64 ((↑(16 + x8.1) : Int) - (7 : Int))) + 0)) + IntKind.wrap IntKind.u32 (↑(BitVec.toNat (BitVec.ofInt (32) (IntKind.wrap IntKind.u32 (↑(BitVec.toNat (BitVec.ofInt (32) (rotr (wordF b (Int.toNat (IntKind.wrap IntKind.i64 ((↑(16 + x8.1) : Int) - (2 : Int))) + 0)) (17)) ^^^ BitVec.ofInt (32) (rotr (wordF b (Int.toNat (IntKind.wrap IntKind.i64 ((↑(16 + x8.1) : Int) - (2 : Int))) + 0)) (19)))) : Int)) ^^^ BitVec.ofInt (32) (Int.fdiv (wordF b (Int.toNat (IntKind.wrap IntKind.i64 ((↑(16 + x8.1) : Int) - (2 : Int))) + 0)) ((2 : Int) ^ 10)))) : Int)))] j)) }]))))))))))) (.out (AV.isl (1) (16 + x8.1) fun (r k : Nat) => Zw (wordF b (r + 0))) [] (AV.isl (1 : Nat) (64 : Nat) fun (i x : Nat) => Zw (wordF b i)) [])))))))
    (by kernel_rfl) ?_
  --LOOPINFO kept [0] changed [3, 4] objects [280]
  refine k_loop (fun _ hs => hs.le (by repeat' (first | exact trivial | (first | exact Ent.refl _ | exact inc_ent (by omega) | exact Ent.nil rfl | exact Ent.of_eq (congrArg (AV.osl _ _ _) (by first | omega | (dsimp only; omega))) | exact Ent.of_eq (congrArg (AV.int _) (by first | omega | (dsimp only; omega)))) | refine And.intro ?_ ?_)) (by repeat' (first | exact trivial | (first | exact ObEnt.refl _ | exact ObEnt.junk | exact ObEnt.zero | exact ObEnt.push rfl rfl | exact ObEnt.pushRow rfl | exact ObEnt.len (by omega) | exact ObEnt.row (by repeat' (first | exact trivial | (first | exact Ent.refl _ | exact inc_ent (by omega) | exact Ent.nil rfl | exact Ent.of_eq (congrArg (AV.osl _ _ _) (by first | omega | (dsimp only; omega))) | exact Ent.of_eq (congrArg (AV.int _) (by first | omega | (dsimp only; omega)))) | refine And.intro ?_ ?_))) | refine And.intro ?_ ?_))) (fun x0 => ?_)
  try (have q0 := x0.2; dsimp only at q0)
  refine k_br (fun h1 => ?_) (fun h1 => ?_)
  · have g1 := cnd_dec_t h1
    --LOOPINFO kept [0, 3, 4] changed [5, 6] objects [0]
    --LOOPINFO   obj 0: some { es := 1, n := x0.1, mu := true, f := Rep.fn fun (i j : Nat) => Zw (be4 b i) }
    refine k_loop (fun _ hs => hs.le (by repeat' (first | exact trivial | (first | exact Ent.refl _ | exact inc_ent (by omega) | exact Ent.nil rfl | exact Ent.of_eq (congrArg (AV.osl _ _ _) (by first | omega | (dsimp only; omega))) | exact Ent.of_eq (congrArg (AV.int _) (by first | omega | (dsimp only; omega)))) | refine And.intro ?_ ?_)) (by repeat' (first | exact trivial | (first | exact ObEnt.refl _ | exact ObEnt.junk | exact ObEnt.zero | exact ObEnt.push rfl rfl | exact ObEnt.pushRow rfl | exact ObEnt.len (by omega) | exact ObEnt.row (by repeat' (first | exact trivial | (first | exact Ent.refl _ | exact inc_ent (by omega) | exact Ent.nil rfl | exact Ent.of_eq (congrArg (AV.osl _ _ _) (by first | omega | (dsimp only; omega))) | exact Ent.of_eq (congrArg (AV.int _) (by first | omega | (dsimp only; omega)))) | refine And.intro ?_ ?_))) | refine And.intro ?_ ?_))) (fun x2 => ?_)
    try (have q2 := x2.2; dsimp only at q2)
    refine k_br (fun h3 => ?_) (fun h3 => ?_)
    · have g3 := cnd_dec_t h3
      refine k_req (by rw [w4k (by omega) (by omega)]; omega) ?_
      exact k_again (⟨x2.1 + 1, by omega⟩) (fun _ hs => hs.le (⟨by first | exact Ent.refl _ | exact inc_ent (by omega) | exact Ent.nil rfl | exact Ent.of_eq (congrArg (AV.osl _ _ _) (by first | omega | (dsimp only; omega))) | exact Ent.of_eq (congrArg (AV.int _) (by first | omega | (dsimp only; omega))), by first | exact Ent.refl _ | exact inc_ent (by omega) | exact Ent.nil rfl | exact Ent.of_eq (congrArg (AV.osl _ _ _) (by first | omega | (dsimp only; omega))) | exact Ent.of_eq (congrArg (AV.int _) (by first | omega | (dsimp only; omega))), by first | exact Ent.refl _ | exact inc_ent (by omega) | exact Ent.nil rfl | exact Ent.of_eq (congrArg (AV.osl _ _ _) (by first | omega | (dsimp only; omega))) | exact Ent.of_eq (congrArg (AV.int _) (by first | omega | (dsimp only; omega))), Ent.of_eq (congrArg _ (by rw [w4k (by omega) (by omega), show Int.toNat (4 * (x0.1 : Int) + x2.1) = 4 * x0.1 + x2.1 by omega]; have p := pre_b24 (k := x2.1) hb (show x0.1 < 16 by omega) (by omega); have q := hb (4 * x0.1 + x2.1) (by omega); exact pre_add p.1 p.2 q.1 q.2)), by first | exact Ent.refl _ | exact inc_ent (by omega) | exact Ent.nil rfl | exact Ent.of_eq (congrArg (AV.osl _ _ _) (by first | omega | (dsimp only; omega))) | exact Ent.of_eq (congrArg (AV.int _) (by first | omega | (dsimp only; omega))), trivial⟩) (by repeat' (first | exact trivial | (first | exact ObEnt.refl _ | exact ObEnt.junk | exact ObEnt.zero | exact ObEnt.push rfl rfl | exact ObEnt.pushRow rfl | exact ObEnt.len (by omega) | exact ObEnt.row (by repeat' (first | exact trivial | (first | exact Ent.refl _ | exact inc_ent (by omega) | exact Ent.nil rfl | exact Ent.of_eq (congrArg (AV.osl _ _ _) (by first | omega | (dsimp only; omega))) | exact Ent.of_eq (congrArg (AV.int _) (by first | omega | (dsimp only; omega)))) | refine And.intro ?_ ?_))) | refine And.intro ?_ ?_))) (by first | omega | (dsimp only; omega) | (simp; omega))
    · have g3 := cnd_dec_f h3
      refine k_req (by first | omega | (simp only [Int.toNat_natCast]; omega)) ?_
      exact k_again (⟨x0.1 + 1, by omega⟩) (fun _ hs => hs.le (by repeat' (first | exact trivial | (first | exact Ent.refl _ | exact inc_ent (by omega) | exact Ent.nil rfl | exact Ent.of_eq (congrArg (AV.osl _ _ _) (by first | omega | (dsimp only; omega))) | exact Ent.of_eq (congrArg (AV.int _) (by first | omega | (dsimp only; omega)))) | refine And.intro ?_ ?_)) (⟨ObEnt.pushF (F := be4 b) rfl (by show preB b x0.1 x2.1 = preB b x0.1 4; rw [show x2.1 = 4 by omega]), trivial⟩)) (by first | omega | (dsimp only; omega) | (simp; omega))
  · have g1 := cnd_dec_f h1
    --LOOPINFO kept [] changed [3, 7] objects [0]
    refine k_loop (fun _ hs => hs.le (⟨Ent.of_eq (congrArg (AV.osl 0 1 0) (by dsimp only; omega)), by first | exact Ent.refl _ | exact inc_ent (by omega) | exact Ent.nil rfl | exact Ent.of_eq (congrArg (AV.osl _ _ _) (by first | omega | (dsimp only; omega))) | exact Ent.of_eq (congrArg (AV.int _) (by first | omega | (dsimp only; omega))), trivial⟩) (⟨ObEnt.fnF (by dsimp only; omega) (fun i hi => (word_lo (by omega)).symm), trivial⟩)) (fun x8 => ?_)
    try (have q8 := x8.2; dsimp only at q8)
    refine k_br (fun h9 => ?_) (fun h9 => ?_)
    · have g9 := cnd_dec_t h9
      refine k_req (by rw [wI (by omega) (by omega)]; omega) ?_
      refine k_req (by rw [wI (by omega) (by omega)]; omega) ?_
      refine k_sc ((fun (x : Int) => rright_c x (7 : Nat)) (wordF b (Int.toNat (IntKind.wrap IntKind.i64 ((↑(16 + x8.1) : Int) - (15 : Int))) + 0)) (by first | assumption | omega) (by first | assumption | omega)) ?_
      refine k_sc ((fun (x : Int) => rright_c x (18 : Nat)) (wordF b (Int.toNat (IntKind.wrap IntKind.i64 ((↑(16 + x8.1) : Int) - (15 : Int))) + 0)) (by first | assumption | omega) (by first | assumption | omega)) ?_
      refine k_sc ((fun (x : Int) => rright_c x (17 : Nat)) (wordF b (Int.toNat (IntKind.wrap IntKind.i64 ((↑(16 + x8.1) : Int) - (2 : Int))) + 0)) (by first | assumption | omega) (by first | assumption | omega)) ?_
      refine k_sc ((fun (x : Int) => rright_c x (19 : Nat)) (wordF b (Int.toNat (IntKind.wrap IntKind.i64 ((↑(16 + x8.1) : Int) - (2 : Int))) + 0)) (by first | assumption | omega) (by first | assumption | omega)) ?_
      refine k_req (by rw [wI (by omega) (by omega)]; omega) ?_
      refine k_req (by rw [wI (by omega) (by omega)]; omega) ?_
      refine k_req (by first | omega | (simp only [Int.toNat_natCast]; omega)) ?_
      exact k_again (⟨x8.1 + 1, by omega⟩) (fun _ hs => hs.le (⟨by first | exact Ent.refl _ | exact inc_ent (by omega) | exact Ent.nil rfl | exact Ent.of_eq (congrArg (AV.osl _ _ _) (by first | omega | (dsimp only; omega))) | exact Ent.of_eq (congrArg (AV.int _) (by first | omega | (dsimp only; omega))), inc_ent (i := 16 + x8.1) (by omega), trivial⟩) (⟨ObEnt.pushF (F := wordF b) rfl (by
                                                                                                     simp only [back_w (t := x8.1) (d := 15) (k := 15) rfl (by omega) (by omega), back_w (t := x8.1) (d := 2) (k := 2) rfl (by omega) (by omega), back_w (t := x8.1) (d := 7) (k := 7) rfl (by omega) (by omega), back_w (t := x8.1) (d := 16) (k := 16) rfl (by omega) (by omega), Nat.zero_add, Nat.add_zero, shr_eq]
                                                                                                     exact (word_hi (j := 16 + x8.1) (by omega)).symm), trivial⟩)) (by first | omega | (dsimp only; omega) | (simp; omega))
    · have g9 := cnd_dec_f h9
      exact k_out (Ent.islN (by omega) (fun i j _ _ => rfl))

theorem rwords_m (b : Nat → Int) (m : Nat) (hm : m = 64) (hb : byB b 64) : Pure Tryz.prog gl0 166 [bys m b] (.isl 1 64 fun i _ => .int .u32 (wordF b i)) := by subst hm; exact rwords_c b hb

theorem rsum_r (f : Nat → Int) (n : Nat) (hn : n ≤ 1099511627776) (hf : byB f n) (w ST : Nat → Nat → Int) (R : Nat → Nat → Nat → Int) (h0 : ST 0 = stF) (hw : ∀ (k : Nat) (q : Nat → Int) (i : Nat), (∀ i, i < 64 → q i = padF n f (64 * k + i)) → wordF q i = w k i)
    (hR : ∀ k, Rnd (ST k) (w k) (R k)) (hS : ∀ k i, ST (k + 1) i = add32 (ST k i) (R k 64 i)) : Pure Tryz.prog gl0 137 [bys n f] (.agg (u8c (outF (ST (padLen n / 64))))) := by
  have pl := pad_len n
  refine pure_sk (own := ow0) Tryz.func137 (by kernel_rfl) mixed (by kernel_rfl)
    (.dc (true) 164 ([]) (AV.isl (1 : Nat) (64 : Nat) fun (i x : Nat) => Zw (kF i)) (.dc (true) 165 ([AV.isl (1) n fun (i x : Nat) => Zb (f i)]) (bys (padLen n) (padF n f)) (.loop ({ x : Nat // x ≤ padLen n / (64 : Nat) }) (fun (x : { x : Nat // x ≤ padLen n / (64 : Nat) }) => mkSt [2, 3, 4, 5, 6] [AV.own (0) (32) (0) (0) (32), AV.osl (1) (1) (0) (8), AV.isl (1) (64) fun (i x : Nat) => Zw (kF i), AV.isl (1) (padLen n) fun (i x : Nat) => Zb (padF n f i), Zi (↑((64 : Nat) * Subtype.val x) : Int)] [some { es := 32, n := 1, mu := true, f := Rep.lst [[Zb 0, Zb 0, Zb 0, Zb 0, Zb 0, Zb 0, Zb 0, Zb 0, Zb 0, Zb 0, Zb 0, Zb 0, Zb 0, Zb 0, Zb 0, Zb 0, Zb 0, Zb 0, Zb 0, Zb 0, Zb 0, Zb 0, Zb 0, Zb 0, Zb 0, Zb 0, Zb 0, Zb 0, Zb 0, Zb 0, Zb 0, Zb 0]] }, some { es := (1 : Nat), n := (8 : Nat), mu := true, f := Rep.fn fun (i x_1 : Nat) => Zw (ST (Subtype.val x) i) }]) (fun (x : { x : Nat // x ≤ padLen n / (64 : Nat) }) => padLen n / (64 : Nat) - Subtype.val x) (⟨(0 : Nat), Nat.zero_le (padLen n / (64 : Nat))⟩) ([2, 3, 4, 5, 6]) ([0, 8]) ([AV.own (0) (32) (0) (0) (32), AV.osl (1) (1) (0) (8), AV.isl (1) (64) fun (i x : Nat) => Zw (kF i), AV.isl (1) (padLen n) fun (i x : Nat) => Zb (padF n f i), Zi 0]) ([some { es := 32, n := 1, mu := true, f := Rep.lst [[Zb 0, Zb 0, Zb 0, Zb 0, Zb 0, Zb 0, Zb 0, Zb 0, Zb 0, Zb 0, Zb 0, Zb 0, Zb 0, Zb 0, Zb 0, Zb 0, Zb 0, Zb 0, Zb 0, Zb 0, Zb 0, Zb 0, Zb 0, Zb 0, Zb 0, Zb 0, Zb 0, Zb 0, Zb 0, Zb 0, Zb 0, Zb 0]] }, some { es := 1, n := 8, mu := true, f := Rep.lst [[Zw 1779033703], [Zw 3144134277], [Zw 1013904242], [Zw 2773480762], [Zw 1359893119], [Zw 2600822924], [Zw 528734635], [Zw 1541459225]] }]) (fun x2 => (.br (decide ((↑(64 * x2.1) : Int) < (↑(padLen n) : Int))) (.req ((0 : Int) ≤ (↑(64 * x2.1) : Int) ∧ (↑(64 * x2.1) : Int) ≤ IntKind.wrap IntKind.i64 ((↑(64 * x2.1) : Int) + (64 : Int)) ∧ IntKind.wrap IntKind.i64 ((↑(64 * x2.1) : Int) + (64 : Int)) ≤ (↑(padLen n) : Int)) (.dc (true) 166 ([AV.isl (1) (Int.toNat (IntKind.wrap IntKind.i64 ((↑(64 * x2.1) : Int) + (64 : Int))) - Int.toNat (↑(64 * x2.1) : Int)) fun (i j : Nat) => Zb (padF n f (i + Int.toNat (↑(64 * x2.1) : Int)))]) (AV.isl (1 : Nat) (64 : Nat) fun (i x : Nat) => Zw (wordF (fun (i : Nat) => padF n f (i + Int.toNat (↑(64 * x2.1) : Int))) i)) (.req (32 ≤ 140737488355328) (.loop ({ x : Nat // x ≤ (64 : Nat) }) (fun (x : { x : Nat // x ≤ (64 : Nat) }) => mkSt [2, 3, 4, 5, 6, 7, 8, 9] [AV.own (0) (32) (0) (0) (32), AV.osl (1) (1) (0) (8), AV.isl (1) (64) fun (i x : Nat) => Zw (kF i), AV.isl (1) (padLen n) fun (i x : Nat) => Zb (padF n f i), Zi (↑(64 * x2.1) : Int), AV.isl (1 : Nat) (64 : Nat) fun (i x : Nat) => Zw (w (Subtype.val x2) i), AV.osl (2 : Nat) (1 : Nat) (0 : Nat) (8 : Nat), Zi (↑(Subtype.val x) : Int)] [some { es := 32, n := 1, mu := true, f := Rep.lst [[Zb 0, Zb 0, Zb 0, Zb 0, Zb 0, Zb 0, Zb 0, Zb 0, Zb 0, Zb 0, Zb 0, Zb 0, Zb 0, Zb 0, Zb 0, Zb 0, Zb 0, Zb 0, Zb 0, Zb 0, Zb 0, Zb 0, Zb 0, Zb 0, Zb 0, Zb 0, Zb 0, Zb 0, Zb 0, Zb 0, Zb 0, Zb 0]] }, some { es := 1, n := 8, mu := true, f := Rep.fn fun (i j : Nat) => Zw (ST (Subtype.val x2) i) }, some { es := (1 : Nat), n := (8 : Nat), mu := true, f := Rep.fn fun (i x_1 : Nat) => Zw (R (Subtype.val x2) (Subtype.val x) i) }]) (fun (x : { x : Nat // x ≤ (64 : Nat) }) => (64 : Nat) - Subtype.val x) (⟨(0 : Nat), Nat.zero_le (64 : Nat)⟩) ([2, 3, 4, 5, 6, 7, 8, 9]) ([0, 1, 106]) ([AV.own (0) (32) (0) (0) (32), AV.osl (1) (1) (0) (8), AV.isl (1) (64) fun (i x : Nat) => Zw (kF i), AV.isl (1) (padLen n) fun (i x : Nat) => Zb (padF n f i), Zi (↑(64 * x2.1) : Int), AV.isl (1) (64) fun (i x : Nat) => Zw (wordF (fun (i : Nat) => padF n f (i + Int.toNat (↑(64 * x2.1) : Int))) i), AV.osl (2) (1) (0) (8), Zi 0]) ([some { es := 32, n := 1, mu := true, f := Rep.lst [[Zb 0, Zb 0, Zb 0, Zb 0, Zb 0, Zb 0, Zb 0, Zb 0, Zb 0, Zb 0, Zb 0, Zb 0, Zb 0, Zb 0, Zb 0, Zb 0, Zb 0, Zb 0, Zb 0, Zb 0, Zb 0, Zb 0, Zb 0, Zb 0, Zb 0, Zb 0, Zb 0, Zb 0, Zb 0, Zb 0, Zb 0, Zb 0]] }, some { es := 1, n := 8, mu := true, f := Rep.fn fun (i j : Nat) => Zw (ST (Subtype.val x2) i) }, some { es := 1, n := 8, mu := true, f := Rep.fn fun (i j : Nat) => Zw (ST (Subtype.val x2) (i + 0)) }]) (fun x7 => (.br (decide ((↑x7.1 : Int) < (64 : Int))) (.req ((0 : Int) ≤ (7 : Int) ∧ (7 : Int) < (↑(8) : Int)) (.req ((0 : Int) ≤ (4 : Int) ∧ (4 : Int) < (↑(8) : Int)) (.sc (true) 167 ([Zw (R x2.1 x7.1 (4)), Zi 6]) (Zw (rotr (R x2.1 x7.1 (4)) (6 : Nat))) (.req ((0 : Int) ≤ (4 : Int) ∧ (4 : Int) < (↑(8) : Int)) (.sc (true) 167 ([Zw (R x2.1 x7.1 (4)), Zi 11]) (Zw (rotr (R x2.1 x7.1 (4)) (11 : Nat))) (.req ((0 : Int) ≤ (4 : Int) ∧ (4 : Int) < (↑(8) : Int)) (.sc (true) 167 ([Zw (R x2.1 x7.1 (4)), Zi 25]) (Zw (rotr (R x2.1 x7.1 (4)) (25 : Nat))) (.req ((0 : Int) ≤ (4 : Int) ∧ (4 : Int) < (↑(8) : Int)) (.req ((0 : Int) ≤ (5 : Int) ∧ (5 : Int) < (↑(8) : Int)) (.req ((0 : Int) ≤ (4 : Int) ∧ (4 : Int) < (↑(8) : Int)) (.req ((0 : Int) ≤ (6 : Int) ∧ (6 : Int) < (↑(8) : Int)) (.req ((0 : Int) ≤ (↑x7.1 : Int) ∧ (↑x7.1 : Int) < (↑(64) : Int)) (.req ((0 : Int) ≤ (↑x7.1 : Int) ∧ (↑x7.1 : Int) < (↑(64) : Int)) (.req ((0 : Int) ≤ (0 : Int) ∧ (0 : Int) < (↑(8) : Int)) (.sc (true) 167 ([Zw (R x2.1 x7.1 (0)), Zi 2]) (Zw (rotr (R x2.1 x7.1 (0)) (2 : Nat))) (.req ((0 : Int) ≤ (0 : Int) ∧ (0 : Int) < (↑(8) : Int)) (.sc (true) 167 ([Zw (R x2.1 x7.1 (0)), Zi 13]) (Zw (rotr (R x2.1 x7.1 (0)) (13 : Nat))) (.req ((0 : Int) ≤ (0 : Int) ∧ (0 : Int) < (↑(8) : Int)) (.sc (true) 167 ([Zw (R x2.1 x7.1 (0)), Zi 22]) (Zw (rotr (R x2.1 x7.1 (0)) (22 : Nat))) (.req ((0 : Int) ≤ (0 : Int) ∧ (0 : Int) < (↑(8) : Int)) (.req ((0 : Int) ≤ (1 : Int) ∧ (1 : Int) < (↑(8) : Int)) (.req ((0 : Int) ≤ (0 : Int) ∧ (0 : Int) < (↑(8) : Int)) (.req ((0 : Int) ≤ (2 : Int) ∧ (2 : Int) < (↑(8) : Int)) (.req ((0 : Int) ≤ (1 : Int) ∧ (1 : Int) < (↑(8) : Int)) (.req ((0 : Int) ≤ (2 : Int) ∧ (2 : Int) < (↑(8) : Int)) (.req ((0 : Int) ≤ (0 : Int) ∧ (0 : Int) < (↑(8) : Int)) (.req ((0 : Int) ≤ (1 : Int) ∧ (1 : Int) < (↑(8) : Int)) (.req ((0 : Int) ≤ (2 : Int) ∧ (2 : Int) < (↑(8) : Int)) (.req ((0 : Int) ≤ (3 : Int) ∧ (3 : Int) < (↑(8) : Int)) (.req ((0 : Int) ≤ (4 : Int) ∧ (4 : Int) < (↑(8) : Int)) (.req ((0 : Int) ≤ (5 : Int) ∧ (5 : Int) < (↑(8) : Int)) (.req ((0 : Int) ≤ (6 : Int) ∧ (6 : Int) < (↑(8) : Int)) (.again (Again (0) (fun (x : { x : Nat // x ≤ (64 : Nat) }) => mkSt [2, 3, 4, 5, 6, 7, 8, 9] [AV.own (0) (32) (0) (0) (32), AV.osl (1) (1) (0) (8), AV.isl (1) (64) fun (i x : Nat) => Zw (kF i), AV.isl (1) (padLen n) fun (i x : Nat) => Zb (padF n f i), Zi (↑(64 * x2.1) : Int), AV.isl (1 : Nat) (64 : Nat) fun (i x : Nat) => Zw (w (Subtype.val x2) i), AV.osl (2 : Nat) (1 : Nat) (0 : Nat) (8 : Nat), Zi (↑(Subtype.val x) : Int)] [some { es := 32, n := 1, mu := true, f := Rep.lst [[Zb 0, Zb 0, Zb 0, Zb 0, Zb 0, Zb 0, Zb 0, Zb 0, Zb 0, Zb 0, Zb 0, Zb 0, Zb 0, Zb 0, Zb 0, Zb 0, Zb 0, Zb 0, Zb 0, Zb 0, Zb 0, Zb 0, Zb 0, Zb 0, Zb 0, Zb 0, Zb 0, Zb 0, Zb 0, Zb 0, Zb 0, Zb 0]] }, some { es := 1, n := 8, mu := true, f := Rep.fn fun (i j : Nat) => Zw (ST (Subtype.val x2) i) }, some { es := (1 : Nat), n := (8 : Nat), mu := true, f := Rep.fn fun (i x_1 : Nat) => Zw (R (Subtype.val x2) (Subtype.val x) i) }]) (fun (x : { x : Nat // x ≤ (64 : Nat) }) => (64 : Nat) - Subtype.val x) x7) ([2, 3, 4, 5, 6, 7, 8, 9]) ([0, 1, 907]) ([AV.own (0) (32) (0) (0) (32), AV.osl (1) (1) (0) (8), AV.isl (1) (64) fun (i x : Nat) => Zw (kF i), AV.isl (1) (padLen n) fun (i x : Nat) => Zb (padF n f i), Zi (↑(64 * x2.1) : Int), AV.isl (1) (64) fun (i x : Nat) => Zw (w x2.1 i), AV.osl (2) (1) (0) (8), Zi (IntKind.wrap IntKind.i64 ((↑x7.1 : Int) + (1 : Int)))]) ([some { es := 32, n := 1, mu := true, f := Rep.lst [[Zb 0, Zb 0, Zb 0, Zb 0, Zb 0, Zb 0, Zb 0, Zb 0, Zb 0, Zb 0, Zb 0, Zb 0, Zb 0, Zb 0, Zb 0, Zb 0, Zb 0, Zb 0, Zb 0, Zb 0, Zb 0, Zb 0, Zb 0, Zb 0, Zb 0, Zb 0, Zb 0, Zb 0, Zb 0, Zb 0, Zb 0, Zb 0]] }, some { es := 1, n := 8, mu := true, f := Rep.fn fun (i j : Nat) => Zw (ST (Subtype.val x2) i) }, some { es := 1, n := 8, mu := true, f := Rep.lst [[Zw (IntKind.wrap IntKind.u32 (IntKind.wrap IntKind.u32 (IntKind.wrap IntKind.u32 (IntKind.wrap IntKind.u32 (IntKind.wrap IntKind.u32 (R x2.1 x7.1 (7) + IntKind.wrap IntKind.u32 (↑(BitVec.toNat (BitVec.ofInt (32) (IntKind.wrap IntKind.u32 (↑(BitVec.toNat (BitVec.ofInt (32) (rotr (R x2.1 x7.1 (4)) (6)) ^^^ BitVec.ofInt (32) (rotr (R x2.1 x7.1 (4)) (11)))) : Int)) ^^^ BitVec.ofInt (32) (rotr (R x2.1 x7.1 (4)) (25)))) : Int)) + IntKind.wrap IntKind.u32 (↑(BitVec.toNat (BitVec.ofInt (32) (IntKind.wrap IntKind.u32 (↑(BitVec.toNat (BitVec.ofInt (32) (R x2.1 x7.1 (4)) &&& BitVec.ofInt (32) (R x2.1 x7.1 (5)))) : Int)) ^^^ BitVec.ofInt (32) (IntKind.wrap IntKind.u32 (↑(BitVec.toNat (BitVec.ofInt (32) (IntKind.wrap IntKind.u32 (↑(BitVec.toNat (BitVec.ofInt (32) (if false = true then (-1 : Int) else IntKind.max IntKind.u32) ^^^ BitVec.ofInt (32) (R x2.1 x7.1 (4)))) : Int)) &&& BitVec.ofInt (32) (R x2.1 x7.1 (6)))) : Int)))) : Int)) + kF (Int.toNat (↑x7.1 : Int))) + w x2.1 (Int.toNat (↑x7.1 : Int))) + IntKind.wrap IntKind.u32 (IntKind.wrap IntKind.u32 (↑(BitVec.toNat (BitVec.ofInt (32) (IntKind.wrap IntKind.u32 (↑(BitVec.toNat (BitVec.ofInt (32) (rotr (R x2.1 x7.1 (0)) (2)) ^^^ BitVec.ofInt (32) (rotr (R x2.1 x7.1 (0)) (13)))) : Int)) ^^^ BitVec.ofInt (32) (rotr (R x2.1 x7.1 (0)) (22)))) : Int) + IntKind.wrap IntKind.u32 (↑(BitVec.toNat (BitVec.ofInt (32) (IntKind.wrap IntKind.u32 (↑(BitVec.toNat (BitVec.ofInt (32) (IntKind.wrap IntKind.u32 (↑(BitVec.toNat (BitVec.ofInt (32) (R x2.1 x7.1 (0)) &&& BitVec.ofInt (32) (R x2.1 x7.1 (1)))) : Int)) ^^^ BitVec.ofInt (32) (IntKind.wrap IntKind.u32 (↑(BitVec.toNat (BitVec.ofInt (32) (R x2.1 x7.1 (0)) &&& BitVec.ofInt (32) (R x2.1 x7.1 (2)))) : Int)))) : Int)) ^^^ BitVec.ofInt (32) (IntKind.wrap IntKind.u32 (↑(BitVec.toNat (BitVec.ofInt (32) (R x2.1 x7.1 (1)) &&& BitVec.ofInt (32) (R x2.1 x7.1 (2)))) : Int)))) : Int))))], [Zw (R (Subtype.val x2) (Subtype.val x7) (Int.toNat (0 : Int) + (0 : Nat)))], [Zw (R (Subtype.val x2) (Subtype.val x7) (Int.toNat (1 : Int) + (0 : Nat)))], [Zw (R (Subtype.val x2) (Subtype.val x7) (Int.toNat (2 : Int) + (0 : Nat)))], [Zw (IntKind.wrap IntKind.u32 (R x2.1 x7.1 (3) + IntKind.wrap IntKind.u32 (IntKind.wrap IntKind.u32 (IntKind.wrap IntKind.u32 (IntKind.wrap IntKind.u32 (R x2.1 x7.1 (7) + IntKind.wrap IntKind.u32 (↑(BitVec.toNat (BitVec.ofInt (32) (IntKind.wrap IntKind.u32 (↑(BitVec.toNat (BitVec.ofInt (32) (rotr (R x2.1 x7.1 (4)) (6)) ^^^ BitVec.ofInt (32) (rotr (R x2.1 x7.1 (4)) (11)))) : Int)) ^^^ BitVec.ofInt (32) (rotr (R x2.1 x7.1 (4)) (25)))) : Int)) + IntKind.wrap IntKind.u32 (↑(BitVec.toNat (BitVec.ofInt (32) (IntKind.wrap IntKind.u32 (↑(BitVec.toNat (BitVec.ofInt (32) (R x2.1 x7.1 (4)) &&& BitVec.ofInt (32) (R x2.1 x7.1 (5)))) : Int)) ^^^ BitVec.ofInt (32) (IntKind.wrap IntKind.u32 (↑(BitVec.toNat (BitVec.ofInt (32) (IntKind.wrap IntKind.u32 (↑(BitVec.toNat (BitVec.ofInt (32) (if false = true then (-1 : Int) else IntKind.max IntKind.u32) ^^^ BitVec.ofInt (32) (R x2.1 x7.1 (4)))) : Int)) &&& BitVec.ofInt (32) (R x2.1 x7.1 (6)))) : Int)))) : Int)) + kF (Int.toNat (↑x7.1 : Int))) + w x2.1 (Int.toNat (↑x7.1 : Int)))))], [Zw (R (Subtype.val x2) (Subtype.val x7) (Int.toNat (4 : Int) + (0 : Nat)))], [Zw (R (Subtype.val x2) (Subtype.val x7) (Int.toNat (5 : Int) + (0 : Nat)))], [Zw (R (Subtype.val x2) (Subtype.val x7) (Int.toNat (6 : Int) + (0 : Nat)))]] }])))))))))))))))))))))))))))))))))) (.loop ({ x : Nat // x ≤ (8 : Nat) }) (fun (x : { x : Nat // x ≤ (8 : Nat) }) => mkSt [2, 3, 4, 5, 6, 8, 12] [AV.own (0) (32) (0) (0) (32), AV.osl (1) (1) (0) (8), AV.isl (1) (64) fun (i x : Nat) => Zw (kF i), AV.isl (1) (padLen n) fun (i x : Nat) => Zb (padF n f i), Zi (↑(64 * x2.1) : Int), AV.osl (2) (1) (0) (8), Zi (↑(Subtype.val x) : Int)] [some { es := 32, n := 1, mu := true, f := Rep.lst [[Zb 0, Zb 0, Zb 0, Zb 0, Zb 0, Zb 0, Zb 0, Zb 0, Zb 0, Zb 0, Zb 0, Zb 0, Zb 0, Zb 0, Zb 0, Zb 0, Zb 0, Zb 0, Zb 0, Zb 0, Zb 0, Zb 0, Zb 0, Zb 0, Zb 0, Zb 0, Zb 0, Zb 0, Zb 0, Zb 0, Zb 0, Zb 0]] }, some { es := (1 : Nat), n := (8 : Nat), mu := true, f := Rep.fn fun (q x_1 : Nat) => Zw (bif Nat.blt q (Subtype.val x) then ST (Subtype.val x2 + (1 : Nat)) q else ST (Subtype.val x2) q) }, some { es := 1, n := 8, mu := true, f := Rep.fn fun (i j : Nat) => Zw (R (Subtype.val x2) (Subtype.val x7) i) }]) (fun (x : { x : Nat // x ≤ (8 : Nat) }) => (8 : Nat) - Subtype.val x) (⟨(0 : Nat), Nat.zero_le (8 : Nat)⟩) ([2, 3, 4, 5, 6, 8, 12]) ([0, 1, 2]) ([AV.own (0) (32) (0) (0) (32), AV.osl (1) (1) (0) (8), AV.isl (1) (64) fun (i x : Nat) => Zw (kF i), AV.isl (1) (padLen n) fun (i x : Nat) => Zb (padF n f i), Zi (↑(64 * x2.1) : Int), AV.osl (2) (1) (0) (8), Zi 0]) ([some { es := 32, n := 1, mu := true, f := Rep.lst [[Zb 0, Zb 0, Zb 0, Zb 0, Zb 0, Zb 0, Zb 0, Zb 0, Zb 0, Zb 0, Zb 0, Zb 0, Zb 0, Zb 0, Zb 0, Zb 0, Zb 0, Zb 0, Zb 0, Zb 0, Zb 0, Zb 0, Zb 0, Zb 0, Zb 0, Zb 0, Zb 0, Zb 0, Zb 0, Zb 0, Zb 0, Zb 0]] }, some { es := 1, n := 8, mu := true, f := Rep.fn fun (i j : Nat) => Zw (ST (Subtype.val x2) i) }, some { es := 1, n := 8, mu := true, f := Rep.fn fun (i j : Nat) => Zw (R (Subtype.val x2) (Subtype.val x7) i) }]) (fun x42 => (.br (decide ((↑x42.1 : Int) < (8 : Int))) (.req ((0 : Int) ≤ (↑x42.1 : Int) ∧ (↑x42.1 : Int) < (↑(8) : Int)) (.req ((0 : Int) ≤ (↑x42.1 : Int) ∧ (↑x42.1 : Int) < (↑(8) : Int)) (.req ((0 : Int) ≤ (↑x42.1 : Int) ∧ (↑x42.1 : Int) < (↑(8) : Int)) (.again (Again (0) (fun (x : { x : Nat // x ≤ (8 : Nat) }) => mkSt [2, 3, 4, 5, 6, 8, 12] [AV.own (0) (32) (0) (0) (32), AV.osl (1) (1) (0) (8), AV.isl (1) (64) fun (i x : Nat) => Zw (kF i), AV.isl (1) (padLen n) fun (i x : Nat) => Zb (padF n f i), Zi (↑(64 * x2.1) : Int), AV.osl (2) (1) (0) (8), Zi (↑(Subtype.val x) : Int)] [some { es := 32, n := 1, mu := true, f := Rep.lst [[Zb 0, Zb 0, Zb 0, Zb 0, Zb 0, Zb 0, Zb 0, Zb 0, Zb 0, Zb 0, Zb 0, Zb 0, Zb 0, Zb 0, Zb 0, Zb 0, Zb 0, Zb 0, Zb 0, Zb 0, Zb 0, Zb 0, Zb 0, Zb 0, Zb 0, Zb 0, Zb 0, Zb 0, Zb 0, Zb 0, Zb 0, Zb 0]] }, some { es := (1 : Nat), n := (8 : Nat), mu := true, f := Rep.fn fun (q x_1 : Nat) => Zw (bif Nat.blt q (Subtype.val x) then ST (Subtype.val x2 + (1 : Nat)) q else ST (Subtype.val x2) q) }, some { es := 1, n := 8, mu := true, f := Rep.fn fun (i j : Nat) => Zw (R (Subtype.val x2) (Subtype.val x7) i) }]) (fun (x : { x : Nat // x ≤ (8 : Nat) }) => (8 : Nat) - Subtype.val x) x42) ([2, 3, 4, 5, 6, 8, 12]) ([0, 1, 2]) ([AV.own (0) (32) (0) (0) (32), AV.osl (1) (1) (0) (8), AV.isl (1) (64) fun (i x : Nat) => Zw (kF i), AV.isl (1) (padLen n) fun (i x : Nat) => Zb (padF n f i), Zi (↑(64 * x2.1) : Int), AV.osl (2) (1) (0) (8), Zi (IntKind.wrap IntKind.i64 ((↑x42.1 : Int) + (1 : Int)))]) ([some { es := 32, n := 1, mu := true, f := Rep.lst [[Zb 0, Zb 0, Zb 0, Zb 0, Zb 0, Zb 0, Zb 0, Zb 0, Zb 0, Zb 0, Zb 0, Zb 0, Zb 0, Zb 0, Zb 0, Zb 0, Zb 0, Zb 0, Zb 0, Zb 0, Zb 0, Zb 0, Zb 0, Zb 0, Zb 0, Zb 0, Zb 0, Zb 0, Zb 0, Zb 0, Zb 0, Zb 0]] }, some { es := 1, n := 8, mu := true, f := Rep.fn fun (i j : Nat) => Zw (bif Nat.beq i (Int.toNat (↑x42.1 : Int) + 0) && (Nat.ble (0) j && Nat.blt j (1)) then IntKind.wrap IntKind.u32 ((bif Nat.blt (Int.toNat (↑x42.1 : Int) + 0) x42.1 then ST (x2.1 + 1) (Int.toNat (↑x42.1 : Int) + 0) else ST x2.1 (Int.toNat (↑x42.1 : Int) + 0)) + R x2.1 x7.1 (Int.toNat (↑x42.1 : Int) + 0)) else bif Nat.blt i x42.1 then ST (x2.1 + 1) i else ST x2.1 i) }, some { es := 1, n := 8, mu := true, f := Rep.fn fun (i j : Nat) => Zw (R (Subtype.val x2) (Subtype.val x7) i) }]))))) (.again (Again (0) (fun (x : { x : Nat // x ≤ padLen n / (64 : Nat) }) => mkSt [2, 3, 4, 5, 6] [AV.own (0) (32) (0) (0) (32), AV.osl (1) (1) (0) (8), AV.isl (1) (64) fun (i x : Nat) => Zw (kF i), AV.isl (1) (padLen n) fun (i x : Nat) => Zb (padF n f i), Zi (↑((64 : Nat) * Subtype.val x) : Int)] [some { es := 32, n := 1, mu := true, f := Rep.lst [[Zb 0, Zb 0, Zb 0, Zb 0, Zb 0, Zb 0, Zb 0, Zb 0, Zb 0, Zb 0, Zb 0, Zb 0, Zb 0, Zb 0, Zb 0, Zb 0, Zb 0, Zb 0, Zb 0, Zb 0, Zb 0, Zb 0, Zb 0, Zb 0, Zb 0, Zb 0, Zb 0, Zb 0, Zb 0, Zb 0, Zb 0, Zb 0]] }, some { es := (1 : Nat), n := (8 : Nat), mu := true, f := Rep.fn fun (i x_1 : Nat) => Zw (ST (Subtype.val x) i) }]) (fun (x : { x : Nat // x ≤ padLen n / (64 : Nat) }) => padLen n / (64 : Nat) - Subtype.val x) x2) ([2, 3, 4, 5, 6]) ([0, 1]) ([AV.own (0) (32) (0) (0) (32), AV.osl (1) (1) (0) (8), AV.isl (1) (64) fun (i x : Nat) => Zw (kF i), AV.isl (1) (padLen n) fun (i x : Nat) => Zb (padF n f i), Zi (IntKind.wrap IntKind.i64 ((↑(64 * x2.1) : Int) + (64 : Int)))]) ([some { es := 32, n := 1, mu := true, f := Rep.lst [[Zb 0, Zb 0, Zb 0, Zb 0, Zb 0, Zb 0, Zb 0, Zb 0, Zb 0, Zb 0, Zb 0, Zb 0, Zb 0, Zb 0, Zb 0, Zb 0, Zb 0, Zb 0, Zb 0, Zb 0, Zb 0, Zb 0, Zb 0, Zb 0, Zb 0, Zb 0, Zb 0, Zb 0, Zb 0, Zb 0, Zb 0, Zb 0]] }, some { es := 1, n := 8, mu := true, f := Rep.fn fun (i j : Nat) => Zw (bif Nat.blt i x42.1 then ST (x2.1 + 1) i else ST x2.1 i) }]))))))))))) (.loop ({ x : Nat // x ≤ (32 : Nat) }) (fun (x : { x : Nat // x ≤ (32 : Nat) }) => mkSt [2, 3, 13, 14] [AV.own (0) (32) (0) (0) (32), AV.osl (1) (1) (0) (8), AV.own (2) (32) (0) (0) (32), Zi (↑(Subtype.val x) : Int)] [some { es := 32, n := 1, mu := true, f := Rep.lst [[Zb 0, Zb 0, Zb 0, Zb 0, Zb 0, Zb 0, Zb 0, Zb 0, Zb 0, Zb 0, Zb 0, Zb 0, Zb 0, Zb 0, Zb 0, Zb 0, Zb 0, Zb 0, Zb 0, Zb 0, Zb 0, Zb 0, Zb 0, Zb 0, Zb 0, Zb 0, Zb 0, Zb 0, Zb 0, Zb 0, Zb 0, Zb 0]] }, some { es := (1 : Nat), n := (8 : Nat), mu := true, f := Rep.fn fun (q x : Nat) => Zw (ST (padLen n / (64 : Nat)) q) }, some { es := (32 : Nat), n := (1 : Nat), mu := true, f := Rep.fn fun (x_1 j : Nat) => Zb (bif Nat.blt j (Subtype.val x) then outF (ST (padLen n / (64 : Nat))) j else (0 : Int)) }]) (fun (x : { x : Nat // x ≤ (32 : Nat) }) => (32 : Nat) - Subtype.val x) (⟨(0 : Nat), Nat.zero_le (32 : Nat)⟩) ([2, 3, 13, 14]) ([0, 1, 34]) ([AV.own (0) (32) (0) (0) (32), AV.osl (1) (1) (0) (8), AV.own (2) (32) (0) (0) (32), Zi 0]) ([some { es := 32, n := 1, mu := true, f := Rep.lst [[Zb 0, Zb 0, Zb 0, Zb 0, Zb 0, Zb 0, Zb 0, Zb 0, Zb 0, Zb 0, Zb 0, Zb 0, Zb 0, Zb 0, Zb 0, Zb 0, Zb 0, Zb 0, Zb 0, Zb 0, Zb 0, Zb 0, Zb 0, Zb 0, Zb 0, Zb 0, Zb 0, Zb 0, Zb 0, Zb 0, Zb 0, Zb 0]] }, some { es := 1, n := 8, mu := true, f := Rep.fn fun (i j : Nat) => Zw (ST (Subtype.val x2) i) }, some { es := 32, n := 1, mu := true, f := Rep.lst [[Zb 0, Zb 0, Zb 0, Zb 0, Zb 0, Zb 0, Zb 0, Zb 0, Zb 0, Zb 0, Zb 0, Zb 0, Zb 0, Zb 0, Zb 0, Zb 0, Zb 0, Zb 0, Zb 0, Zb 0, Zb 0, Zb 0, Zb 0, Zb 0, Zb 0, Zb 0, Zb 0, Zb 0, Zb 0, Zb 0, Zb 0, Zb 0]] }]) (fun x49 => (.br (decide ((↑x49.1 : Int) < (32 : Int))) (.req ((0 : Int) ≤ IntKind.wrap IntKind.i64 (Int.tdiv (↑x49.1 : Int) (4 : Int)) ∧ IntKind.wrap IntKind.i64 (Int.tdiv (↑x49.1 : Int) (4 : Int)) < (↑(8) : Int)) (.req ((0 : Int) ≤ IntKind.wrap IntKind.i64 ((24 : Int) - IntKind.wrap IntKind.i64 ((8 : Int) * Int.tmod (↑x49.1 : Int) (4 : Int)))) (.req ((0 : Int) ≤ (↑x49.1 : Int) ∧ (↑x49.1 : Int) < (↑(32) : Int)) (.again (Again (0) (fun (x : { x : Nat // x ≤ (32 : Nat) }) => mkSt [2, 3, 13, 14] [AV.own (0) (32) (0) (0) (32), AV.osl (1) (1) (0) (8), AV.own (2) (32) (0) (0) (32), Zi (↑(Subtype.val x) : Int)] [some { es := 32, n := 1, mu := true, f := Rep.lst [[Zb 0, Zb 0, Zb 0, Zb 0, Zb 0, Zb 0, Zb 0, Zb 0, Zb 0, Zb 0, Zb 0, Zb 0, Zb 0, Zb 0, Zb 0, Zb 0, Zb 0, Zb 0, Zb 0, Zb 0, Zb 0, Zb 0, Zb 0, Zb 0, Zb 0, Zb 0, Zb 0, Zb 0, Zb 0, Zb 0, Zb 0, Zb 0]] }, some { es := (1 : Nat), n := (8 : Nat), mu := true, f := Rep.fn fun (q x : Nat) => Zw (ST (padLen n / (64 : Nat)) q) }, some { es := (32 : Nat), n := (1 : Nat), mu := true, f := Rep.fn fun (x_1 j : Nat) => Zb (bif Nat.blt j (Subtype.val x) then outF (ST (padLen n / (64 : Nat))) j else (0 : Int)) }]) (fun (x : { x : Nat // x ≤ (32 : Nat) }) => (32 : Nat) - Subtype.val x) x49) ([2, 3, 13, 14]) ([0, 1, 2]) ([AV.own (0) (32) (0) (0) (32), AV.osl (1) (1) (0) (8), AV.own (2) (32) (0) (0) (32), Zi (IntKind.wrap IntKind.i64 ((↑x49.1 : Int) + (1 : Int)))]) ([some { es := 32, n := 1, mu := true, f := Rep.lst [[Zb 0, Zb 0, Zb 0, Zb 0, Zb 0, Zb 0, Zb 0, Zb 0, Zb 0, Zb 0, Zb 0, Zb 0, Zb 0, Zb 0, Zb 0, Zb 0, Zb 0, Zb 0, Zb 0, Zb 0, Zb 0, Zb 0, Zb 0, Zb 0, Zb 0, Zb 0, Zb 0, Zb 0, Zb 0, Zb 0, Zb 0, Zb 0]] }, some { es := 1, n := 8, mu := true, f := Rep.fn fun (i j : Nat) => Zw (ST (padLen n / (64 : Nat)) i) }, some { es := 32, n := 1, mu := true, f := Rep.fn fun (i j : Nat) => Zb (bif Nat.beq i (0) && Nat.beq j (0 + Int.toNat (↑x49.1 : Int)) then IntKind.wrap IntKind.u8 (Int.fdiv (ST (padLen n / 64) (Int.toNat (IntKind.wrap IntKind.i64 (Int.tdiv (↑x49.1 : Int) (4 : Int))) + 0)) ((2 : Int) ^ min (Int.toNat (IntKind.wrap IntKind.i64 ((24 : Int) - IntKind.wrap IntKind.i64 ((8 : Int) * Int.tmod (↑x49.1 : Int) (4 : Int))))) (32))) else bif Nat.blt j x49.1 then outF (ST (padLen n / 64)) j else (0 : Int)) }]))))) (.out (AV.agg [Zb (bif Nat.blt (0) x49.1 then outF (ST (padLen n / 64)) (0) else (0 : Int)), Zb (bif Nat.blt (1) x49.1 then outF (ST (padLen n / 64)) (1) else (0 : Int)), Zb (bif Nat.blt (2) x49.1 then outF (ST (padLen n / 64)) (2) else (0 : Int)), Zb (bif Nat.blt (3) x49.1 then outF (ST (padLen n / 64)) (3) else (0 : Int)), Zb (bif Nat.blt (4) x49.1 then outF (ST (padLen n / 64)) (4) else (0 : Int)), Zb (bif Nat.blt (5) x49.1 then outF (ST (padLen n / 64)) (5) else (0 : Int)), Zb (bif Nat.blt (6) x49.1 then outF (ST (padLen n / 64)) (6) else (0 : Int)), Zb (bif Nat.blt (7) x49.1 then outF (ST (padLen n / 64)) (7) else (0 : Int)), Zb (bif Nat.blt (8) x49.1 then outF (ST (padLen n / 64)) (8) else (0 : Int)), Zb (bif Nat.blt (9) x49.1 then outF (ST (padLen n / 64)) (9) else (0 : Int)), Zb (bif Nat.blt (10) x49.1 then outF (ST (padLen n / 64)) (10) else (0 : Int)), Zb (bif Nat.blt (11) x49.1 then outF (ST (padLen n / 64)) (11) else (0 : Int)), Zb (bif Nat.blt (12) x49.1 then outF (ST (padLen n / 64)) (12) else (0 : Int)), Zb (bif Nat.blt (13) x49.1 then outF (ST (padLen n / 64)) (13) else (0 : Int)), Zb (bif Nat.blt (14) x49.1 then outF (ST (padLen n / 64)) (14) else (0 : Int)), Zb (bif Nat.blt (15) x49.1 then outF (ST (padLen n / 64)) (15) else (0 : Int)), Zb (bif Nat.blt (16) x49.1 then outF (ST (padLen n / 64)) (16) else (0 : Int)), Zb (bif Nat.blt (17) x49.1 then outF (ST (padLen n / 64)) (17) else (0 : Int)), Zb (bif Nat.blt (18) x49.1 then outF (ST (padLen n / 64)) (18) else (0 : Int)), Zb (bif Nat.blt (19) x49.1 then outF (ST (padLen n / 64)) (19) else (0 : Int)), Zb (bif Nat.blt (20) x49.1 then outF (ST (padLen n / 64)) (20) else (0 : Int)), Zb (bif Nat.blt (21) x49.1 then outF (ST (padLen n / 64)) (21) else (0 : Int)), Zb (bif Nat.blt (22) x49.1 then outF (ST (padLen n / 64)) (22) else (0 : Int)), Zb (bif Nat.blt (23) x49.1 then outF (ST (padLen n / 64)) (23) else (0 : Int)), Zb (bif Nat.blt (24) x49.1 then outF (ST (padLen n / 64)) (24) else (0 : Int)), Zb (bif Nat.blt (25) x49.1 then outF (ST (padLen n / 64)) (25) else (0 : Int)), Zb (bif Nat.blt (26) x49.1 then outF (ST (padLen n / 64)) (26) else (0 : Int)), Zb (bif Nat.blt (27) x49.1 then outF (ST (padLen n / 64)) (27) else (0 : Int)), Zb (bif Nat.blt (28) x49.1 then outF (ST (padLen n / 64)) (28) else (0 : Int)), Zb (bif Nat.blt (29) x49.1 then outF (ST (padLen n / 64)) (29) else (0 : Int)), Zb (bif Nat.blt (30) x49.1 then outF (ST (padLen n / 64)) (30) else (0 : Int)), Zb (bif Nat.blt (31) x49.1 then outF (ST (padLen n / 64)) (31) else (0 : Int))]) [] (AV.agg (u8c (outF (ST (padLen n / (64 : Nat)))))) [])))))))))
    (by kernel_rfl) ?_
  refine k_dc (constants_c) ?_
  refine k_dc (padded_c (f) (n) (by first | omega | assumption | (rw [w64 hn (by omega)]; omega) | exact fun i _ => pad_by hf _)) ?_
  --LOOPINFO kept [2, 3, 4, 5] changed [6] objects [0, 8]
  --LOOPINFO   obj 0: some { es := 32, n := 1, mu := true, f := Rep.lst [[Zb 0, Zb 0, Zb 0, Zb 0, Zb 0, Zb 0, Zb 0, Zb 0, Zb 0, Zb 0, Zb 0, Zb 0, Zb 0, Zb 0, Zb 0, Zb 0, Zb 0, Zb 0, Zb 0, Zb 0, Zb 0, Zb 0, Zb 0, Zb 0, Zb 0, Zb 0, Zb 0, Zb 0, Zb 0, Zb 0, Zb 0, Zb 0]] }
  refine k_loop (fun _ hs => hs.le (by repeat' (first | exact trivial | (first | exact Ent.refl _ | exact inc_ent (by omega) | exact Ent.nil rfl | exact Ent.of_eq (congrArg (AV.osl _ _ _) (by first | omega | (dsimp only; omega))) | exact Ent.of_eq (congrArg (AV.int _) (by first | omega | (dsimp only; omega)))) | refine And.intro ?_ ?_)) (⟨by first | exact ObEnt.refl _ | exact ObEnt.junk | exact ObEnt.zero | exact ObEnt.push rfl rfl | exact ObEnt.pushRow rfl | exact ObEnt.len (by omega) | exact ObEnt.row (by repeat' (first | exact trivial | (first | exact Ent.refl _ | exact inc_ent (by omega) | exact Ent.nil rfl | exact Ent.of_eq (congrArg (AV.osl _ _ _) (by first | omega | (dsimp only; omega))) | exact Ent.of_eq (congrArg (AV.int _) (by first | omega | (dsimp only; omega)))) | refine And.intro ?_ ?_)), st_ob h0, trivial⟩)) (fun x2 => ?_)
  try (have q2 := x2.2; dsimp only at q2)
  refine k_br (fun h3 => ?_) (fun h3 => ?_)
  · have g3 := cnd_dec_t h3
    refine k_req (by rw [w64 hn (by omega)]; omega) ?_
    refine k_dc (rwords_m (fun (i : Nat) => padF n f (i + Int.toNat (↑(64 * x2.1) : Int))) (Int.toNat (IntKind.wrap IntKind.i64 ((↑(64 * x2.1) : Int) + (64 : Int))) - Int.toNat (↑(64 * x2.1) : Int)) (by first | omega | assumption | (rw [w64 hn (by omega)]; omega) | exact fun i _ => pad_by hf _) (by first | omega | assumption | (rw [w64 hn (by omega)]; omega) | exact fun i _ => pad_by hf _)) ?_
    refine k_req (by first | omega | (simp only [Int.toNat_natCast]; omega)) ?_
    --LOOPINFO kept [2, 3, 4, 5, 6] changed [7, 8, 9] objects [0, 1, 106]
    --LOOPINFO   obj 0: some { es := 32, n := 1, mu := true, f := Rep.lst [[Zb 0, Zb 0, Zb 0, Zb 0, Zb 0, Zb 0, Zb 0, Zb 0, Zb 0, Zb 0, Zb 0, Zb 0, Zb 0, Zb 0, Zb 0, Zb 0, Zb 0, Zb 0, Zb 0, Zb 0, Zb 0, Zb 0, Zb 0, Zb 0, Zb 0, Zb 0, Zb 0, Zb 0, Zb 0, Zb 0, Zb 0, Zb 0]] }
    --LOOPINFO   obj 1: some { es := 1, n := 8, mu := true, f := Rep.fn fun (i j : Nat) => Zw (ST (Subtype.val x2) i) }
    refine k_loop (fun _ hs => hs.le (⟨by first | exact Ent.refl _ | exact inc_ent (by omega) | exact Ent.nil rfl | exact Ent.of_eq (congrArg (AV.osl _ _ _) (by first | omega | (dsimp only; omega))) | exact Ent.of_eq (congrArg (AV.int _) (by first | omega | (dsimp only; omega))), by first | exact Ent.refl _ | exact inc_ent (by omega) | exact Ent.nil rfl | exact Ent.of_eq (congrArg (AV.osl _ _ _) (by first | omega | (dsimp only; omega))) | exact Ent.of_eq (congrArg (AV.int _) (by first | omega | (dsimp only; omega))), by first | exact Ent.refl _ | exact inc_ent (by omega) | exact Ent.nil rfl | exact Ent.of_eq (congrArg (AV.osl _ _ _) (by first | omega | (dsimp only; omega))) | exact Ent.of_eq (congrArg (AV.int _) (by first | omega | (dsimp only; omega))), by first | exact Ent.refl _ | exact inc_ent (by omega) | exact Ent.nil rfl | exact Ent.of_eq (congrArg (AV.osl _ _ _) (by first | omega | (dsimp only; omega))) | exact Ent.of_eq (congrArg (AV.int _) (by first | omega | (dsimp only; omega))), by first | exact Ent.refl _ | exact inc_ent (by omega) | exact Ent.nil rfl | exact Ent.of_eq (congrArg (AV.osl _ _ _) (by first | omega | (dsimp only; omega))) | exact Ent.of_eq (congrArg (AV.int _) (by first | omega | (dsimp only; omega))), Ent.islN rfl (fun i j _ _ => congrArg _ (hw x2.1 _ i (fun q _ => congrArg (padF n f) (by (try simp only [Int.toNat_natCast]); omega)))), by first | exact Ent.refl _ | exact inc_ent (by omega) | exact Ent.nil rfl | exact Ent.of_eq (congrArg (AV.osl _ _ _) (by first | omega | (dsimp only; omega))) | exact Ent.of_eq (congrArg (AV.int _) (by first | omega | (dsimp only; omega))), by first | exact Ent.refl _ | exact inc_ent (by omega) | exact Ent.nil rfl | exact Ent.of_eq (congrArg (AV.osl _ _ _) (by first | omega | (dsimp only; omega))) | exact Ent.of_eq (congrArg (AV.int _) (by first | omega | (dsimp only; omega))), trivial⟩) (⟨by first | exact ObEnt.refl _ | exact ObEnt.junk | exact ObEnt.zero | exact ObEnt.push rfl rfl | exact ObEnt.pushRow rfl | exact ObEnt.len (by omega) | exact ObEnt.row (by repeat' (first | exact trivial | (first | exact Ent.refl _ | exact inc_ent (by omega) | exact Ent.nil rfl | exact Ent.of_eq (congrArg (AV.osl _ _ _) (by first | omega | (dsimp only; omega))) | exact Ent.of_eq (congrArg (AV.int _) (by first | omega | (dsimp only; omega)))) | refine And.intro ?_ ?_)), by first | exact ObEnt.refl _ | exact ObEnt.junk | exact ObEnt.zero | exact ObEnt.push rfl rfl | exact ObEnt.pushRow rfl | exact ObEnt.len (by omega) | exact ObEnt.row (by repeat' (first | exact trivial | (first | exact Ent.refl _ | exact inc_ent (by omega) | exact Ent.nil rfl | exact Ent.of_eq (congrArg (AV.osl _ _ _) (by first | omega | (dsimp only; omega))) | exact Ent.of_eq (congrArg (AV.int _) (by first | omega | (dsimp only; omega)))) | refine And.intro ?_ ?_)), ObEnt.fnF rfl (fun i _ => ((hR x2.1).z i).symm), trivial⟩)) (fun x7 => ?_)
    try (have q7 := x7.2; dsimp only at q7)
    refine k_br (fun h8 => ?_) (fun h8 => ?_)
    · have g8 := cnd_dec_t h8
      refine k_req (by first | omega | (simp only [Int.toNat_natCast]; omega)) ?_
      refine k_req (by first | omega | (simp only [Int.toNat_natCast]; omega)) ?_
      refine k_sc ((fun (x : Int) => rright_c x (6 : Nat)) (R x2.1 x7.1 (4)) (by first | omega | assumption | (rw [w64 hn (by omega)]; omega) | exact fun i _ => pad_by hf _) (by first | omega | assumption | (rw [w64 hn (by omega)]; omega) | exact fun i _ => pad_by hf _)) ?_
      refine k_req (by first | omega | (simp only [Int.toNat_natCast]; omega)) ?_
      refine k_sc ((fun (x : Int) => rright_c x (11 : Nat)) (R x2.1 x7.1 (4)) (by first | omega | assumption | (rw [w64 hn (by omega)]; omega) | exact fun i _ => pad_by hf _) (by first | omega | assumption | (rw [w64 hn (by omega)]; omega) | exact fun i _ => pad_by hf _)) ?_
      refine k_req (by first | omega | (simp only [Int.toNat_natCast]; omega)) ?_
      refine k_sc ((fun (x : Int) => rright_c x (25 : Nat)) (R x2.1 x7.1 (4)) (by first | omega | assumption | (rw [w64 hn (by omega)]; omega) | exact fun i _ => pad_by hf _) (by first | omega | assumption | (rw [w64 hn (by omega)]; omega) | exact fun i _ => pad_by hf _)) ?_
      refine k_req (by first | omega | (simp only [Int.toNat_natCast]; omega)) ?_
      refine k_req (by first | omega | (simp only [Int.toNat_natCast]; omega)) ?_
      refine k_req (by first | omega | (simp only [Int.toNat_natCast]; omega)) ?_
      refine k_req (by first | omega | (simp only [Int.toNat_natCast]; omega)) ?_
      refine k_req (by first | omega | (simp only [Int.toNat_natCast]; omega)) ?_
      refine k_req (by first | omega | (simp only [Int.toNat_natCast]; omega)) ?_
      refine k_req (by first | omega | (simp only [Int.toNat_natCast]; omega)) ?_
      refine k_sc ((fun (x : Int) => rright_c x (2 : Nat)) (R x2.1 x7.1 (0)) (by first | omega | assumption | (rw [w64 hn (by omega)]; omega) | exact fun i _ => pad_by hf _) (by first | omega | assumption | (rw [w64 hn (by omega)]; omega) | exact fun i _ => pad_by hf _)) ?_
      refine k_req (by first | omega | (simp only [Int.toNat_natCast]; omega)) ?_
      refine k_sc ((fun (x : Int) => rright_c x (13 : Nat)) (R x2.1 x7.1 (0)) (by first | omega | assumption | (rw [w64 hn (by omega)]; omega) | exact fun i _ => pad_by hf _) (by first | omega | assumption | (rw [w64 hn (by omega)]; omega) | exact fun i _ => pad_by hf _)) ?_
      refine k_req (by first | omega | (simp only [Int.toNat_natCast]; omega)) ?_
      refine k_sc ((fun (x : Int) => rright_c x (22 : Nat)) (R x2.1 x7.1 (0)) (by first | omega | assumption | (rw [w64 hn (by omega)]; omega) | exact fun i _ => pad_by hf _) (by first | omega | assumption | (rw [w64 hn (by omega)]; omega) | exact fun i _ => pad_by hf _)) ?_
      refine k_req (by first | omega | (simp only [Int.toNat_natCast]; omega)) ?_
      refine k_req (by first | omega | (simp only [Int.toNat_natCast]; omega)) ?_
      refine k_req (by first | omega | (simp only [Int.toNat_natCast]; omega)) ?_
      refine k_req (by first | omega | (simp only [Int.toNat_natCast]; omega)) ?_
      refine k_req (by first | omega | (simp only [Int.toNat_natCast]; omega)) ?_
      refine k_req (by first | omega | (simp only [Int.toNat_natCast]; omega)) ?_
      refine k_req (by first | omega | (simp only [Int.toNat_natCast]; omega)) ?_
      refine k_req (by first | omega | (simp only [Int.toNat_natCast]; omega)) ?_
      refine k_req (by first | omega | (simp only [Int.toNat_natCast]; omega)) ?_
      refine k_req (by first | omega | (simp only [Int.toNat_natCast]; omega)) ?_
      refine k_req (by first | omega | (simp only [Int.toNat_natCast]; omega)) ?_
      refine k_req (by first | omega | (simp only [Int.toNat_natCast]; omega)) ?_
      refine k_req (by first | omega | (simp only [Int.toNat_natCast]; omega)) ?_
      exact k_again (⟨x7.1 + 1, by omega⟩) (fun _ hs => hs.le (by repeat' (first | exact trivial | (first | exact Ent.refl _ | exact inc_ent (by omega) | exact Ent.nil rfl | exact Ent.of_eq (congrArg (AV.osl _ _ _) (by first | omega | (dsimp only; omega))) | exact Ent.of_eq (congrArg (AV.int _) (by first | omega | (dsimp only; omega)))) | refine And.intro ?_ ?_)) (⟨by first | exact ObEnt.refl _ | exact ObEnt.junk | exact ObEnt.zero | exact ObEnt.push rfl rfl | exact ObEnt.pushRow rfl | exact ObEnt.len (by omega) | exact ObEnt.row (by repeat' (first | exact trivial | (first | exact Ent.refl _ | exact inc_ent (by omega) | exact Ent.nil rfl | exact Ent.of_eq (congrArg (AV.osl _ _ _) (by first | omega | (dsimp only; omega))) | exact Ent.of_eq (congrArg (AV.int _) (by first | omega | (dsimp only; omega)))) | refine And.intro ?_ ?_)), by first | exact ObEnt.refl _ | exact ObEnt.junk | exact ObEnt.zero | exact ObEnt.push rfl rfl | exact ObEnt.pushRow rfl | exact ObEnt.len (by omega) | exact ObEnt.row (by repeat' (first | exact trivial | (first | exact Ent.refl _ | exact inc_ent (by omega) | exact Ent.nil rfl | exact Ent.of_eq (congrArg (AV.osl _ _ _) (by first | omega | (dsimp only; omega))) | exact Ent.of_eq (congrArg (AV.int _) (by first | omega | (dsimp only; omega)))) | refine And.intro ?_ ?_)), rnd_ob (hR x2.1) (by rw [(hR x2.1).s0]; simp only [Nat.zero_add, Int.toNat_natCast, Nat.add_zero]; rfl) (by rw [(hR x2.1).s4]; simp only [Nat.zero_add, Int.toNat_natCast, Nat.add_zero]; rfl), trivial⟩)) (by first | omega | (dsimp only; omega) | (simp; omega))
    · have g8 := cnd_dec_f h8
      --LOOPINFO kept [2, 3, 4, 5, 6, 8] changed [12] objects [0, 1, 2]
      --LOOPINFO   obj 0: some { es := 32, n := 1, mu := true, f := Rep.lst [[Zb 0, Zb 0, Zb 0, Zb 0, Zb 0, Zb 0, Zb 0, Zb 0, Zb 0, Zb 0, Zb 0, Zb 0, Zb 0, Zb 0, Zb 0, Zb 0, Zb 0, Zb 0, Zb 0, Zb 0, Zb 0, Zb 0, Zb 0, Zb 0, Zb 0, Zb 0, Zb 0, Zb 0, Zb 0, Zb 0, Zb 0, Zb 0]] }
      --LOOPINFO   obj 2: some { es := 1, n := 8, mu := true, f := Rep.fn fun (i j : Nat) => Zw (R (Subtype.val x2) (Subtype.val x7) i) }
      refine k_loop (fun _ hs => hs.le (by repeat' (first | exact trivial | (first | exact Ent.refl _ | exact inc_ent (by omega) | exact Ent.nil rfl | exact Ent.of_eq (congrArg (AV.osl _ _ _) (by first | omega | (dsimp only; omega))) | exact Ent.of_eq (congrArg (AV.int _) (by first | omega | (dsimp only; omega)))) | refine And.intro ?_ ?_)) (by repeat' (first | exact trivial | (first | exact ObEnt.refl _ | exact ObEnt.junk | exact ObEnt.zero | exact ObEnt.push rfl rfl | exact ObEnt.pushRow rfl | exact ObEnt.len (by omega) | exact ObEnt.row (by repeat' (first | exact trivial | (first | exact Ent.refl _ | exact inc_ent (by omega) | exact Ent.nil rfl | exact Ent.of_eq (congrArg (AV.osl _ _ _) (by first | omega | (dsimp only; omega))) | exact Ent.of_eq (congrArg (AV.int _) (by first | omega | (dsimp only; omega)))) | refine And.intro ?_ ?_))) | refine And.intro ?_ ?_))) (fun x42 => ?_)
      try (have q42 := x42.2; dsimp only at q42)
      refine k_br (fun h43 => ?_) (fun h43 => ?_)
      · have g43 := cnd_dec_t h43
        refine k_req (by first | omega | (simp only [Int.toNat_natCast]; omega)) ?_
        refine k_req (by first | omega | (simp only [Int.toNat_natCast]; omega)) ?_
        refine k_req (by first | omega | (simp only [Int.toNat_natCast]; omega)) ?_
        exact k_again (⟨x42.1 + 1, by omega⟩) (fun _ hs => hs.le (by repeat' (first | exact trivial | (first | exact Ent.refl _ | exact inc_ent (by omega) | exact Ent.nil rfl | exact Ent.of_eq (congrArg (AV.osl _ _ _) (by first | omega | (dsimp only; omega))) | exact Ent.of_eq (congrArg (AV.int _) (by first | omega | (dsimp only; omega)))) | refine And.intro ?_ ?_)) (⟨by first | exact ObEnt.refl _ | exact ObEnt.junk | exact ObEnt.zero | exact ObEnt.push rfl rfl | exact ObEnt.pushRow rfl | exact ObEnt.len (by omega) | exact ObEnt.row (by repeat' (first | exact trivial | (first | exact Ent.refl _ | exact inc_ent (by omega) | exact Ent.nil rfl | exact Ent.of_eq (congrArg (AV.osl _ _ _) (by first | omega | (dsimp only; omega))) | exact Ent.of_eq (congrArg (AV.int _) (by first | omega | (dsimp only; omega)))) | refine And.intro ?_ ?_)), ObEnt.setF (i0 := x42.1) (G := fun q => bif Nat.blt q (x42.1 + 1) then ST (x2.1 + 1) q else ST x2.1 q) (by
                                                                                                     have e : x7.1 = 64 := by omega
                                                                                                     simp only [Nat.zero_add, Nat.add_zero, Int.toNat_natCast, blt_f (Nat.le_refl x42.1), blt_t (Nat.lt_succ_self x42.1), cond_true, cond_false, e]
                                                                                                     exact (hS x2.1 x42.1).symm) (fun q _ he => fill_step2 (F := ST (x2.1 + 1)) (z := ST x2.1) he), by first | exact ObEnt.refl _ | exact ObEnt.junk | exact ObEnt.zero | exact ObEnt.push rfl rfl | exact ObEnt.pushRow rfl | exact ObEnt.len (by omega) | exact ObEnt.row (by repeat' (first | exact trivial | (first | exact Ent.refl _ | exact inc_ent (by omega) | exact Ent.nil rfl | exact Ent.of_eq (congrArg (AV.osl _ _ _) (by first | omega | (dsimp only; omega))) | exact Ent.of_eq (congrArg (AV.int _) (by first | omega | (dsimp only; omega)))) | refine And.intro ?_ ?_)), trivial⟩)) (by first | omega | (dsimp only; omega) | (simp; omega))
      · have g43 := cnd_dec_f h43
        exact k_again (⟨x2.1 + 1, by omega⟩) (fun _ hs => hs.le (⟨by first | exact Ent.refl _ | exact inc_ent (by omega) | exact Ent.nil rfl | exact Ent.of_eq (congrArg (AV.osl _ _ _) (by first | omega | (dsimp only; omega))) | exact Ent.of_eq (congrArg (AV.int _) (by first | omega | (dsimp only; omega))), by first | exact Ent.refl _ | exact inc_ent (by omega) | exact Ent.nil rfl | exact Ent.of_eq (congrArg (AV.osl _ _ _) (by first | omega | (dsimp only; omega))) | exact Ent.of_eq (congrArg (AV.int _) (by first | omega | (dsimp only; omega))), by first | exact Ent.refl _ | exact inc_ent (by omega) | exact Ent.nil rfl | exact Ent.of_eq (congrArg (AV.osl _ _ _) (by first | omega | (dsimp only; omega))) | exact Ent.of_eq (congrArg (AV.int _) (by first | omega | (dsimp only; omega))), by first | exact Ent.refl _ | exact inc_ent (by omega) | exact Ent.nil rfl | exact Ent.of_eq (congrArg (AV.osl _ _ _) (by first | omega | (dsimp only; omega))) | exact Ent.of_eq (congrArg (AV.int _) (by first | omega | (dsimp only; omega))), Ent.of_eq (congrArg _ (w64 hn (by omega))), trivial⟩) (⟨by first | exact ObEnt.refl _ | exact ObEnt.junk | exact ObEnt.zero | exact ObEnt.push rfl rfl | exact ObEnt.pushRow rfl | exact ObEnt.len (by omega) | exact ObEnt.row (by repeat' (first | exact trivial | (first | exact Ent.refl _ | exact inc_ent (by omega) | exact Ent.nil rfl | exact Ent.of_eq (congrArg (AV.osl _ _ _) (by first | omega | (dsimp only; omega))) | exact Ent.of_eq (congrArg (AV.int _) (by first | omega | (dsimp only; omega)))) | refine And.intro ?_ ?_)), ObEnt.fnF rfl (fun q hq => by rw [blt_t (by omega)]; rfl), trivial⟩)) (by first | omega | (dsimp only; omega) | (simp; omega))
  · have g3 := cnd_dec_f h3
    --LOOPINFO kept [2, 3, 13] changed [14] objects [0, 1, 34]
    --LOOPINFO   obj 0: some { es := 32, n := 1, mu := true, f := Rep.lst [[Zb 0, Zb 0, Zb 0, Zb 0, Zb 0, Zb 0, Zb 0, Zb 0, Zb 0, Zb 0, Zb 0, Zb 0, Zb 0, Zb 0, Zb 0, Zb 0, Zb 0, Zb 0, Zb 0, Zb 0, Zb 0, Zb 0, Zb 0, Zb 0, Zb 0, Zb 0, Zb 0, Zb 0, Zb 0, Zb 0, Zb 0, Zb 0]] }
    refine k_loop (fun _ hs => hs.le (by repeat' (first | exact trivial | (first | exact Ent.refl _ | exact inc_ent (by omega) | exact Ent.nil rfl | exact Ent.of_eq (congrArg (AV.osl _ _ _) (by first | omega | (dsimp only; omega))) | exact Ent.of_eq (congrArg (AV.int _) (by first | omega | (dsimp only; omega)))) | refine And.intro ?_ ?_)) (⟨by first | exact ObEnt.refl _ | exact ObEnt.junk | exact ObEnt.zero | exact ObEnt.push rfl rfl | exact ObEnt.pushRow rfl | exact ObEnt.len (by omega) | exact ObEnt.row (by repeat' (first | exact trivial | (first | exact Ent.refl _ | exact inc_ent (by omega) | exact Ent.nil rfl | exact Ent.of_eq (congrArg (AV.osl _ _ _) (by first | omega | (dsimp only; omega))) | exact Ent.of_eq (congrArg (AV.int _) (by first | omega | (dsimp only; omega)))) | refine And.intro ?_ ?_)), ObEnt.fnF rfl (fun q _ => by
                                                                                                     have e : x2.1 = padLen n / 64 := by omega
                                                                                                     rw [e]), zero_ob32 (fun j => rfl), trivial⟩)) (fun x49 => ?_)
    refine k_br (fun h50 => ?_) (fun h50 => ?_)
    · have g50 := cnd_dec_t h50
      refine k_req (by rw [(q4 (by omega)).1]; omega) ?_
      refine k_req (by rw [(q4 (by omega)).2]; omega) ?_
      refine k_req (by first | omega | (simp only [Int.toNat_natCast]; omega)) ?_
      exact k_again (⟨x49.1 + 1, by omega⟩) (fun _ hs => hs.le (by repeat' (first | exact trivial | (first | exact Ent.refl _ | exact inc_ent (by omega) | exact Ent.nil rfl | exact Ent.of_eq (congrArg (AV.osl _ _ _) (by first | omega | (dsimp only; omega))) | exact Ent.of_eq (congrArg (AV.int _) (by first | omega | (dsimp only; omega)))) | refine And.intro ?_ ?_)) (⟨by first | exact ObEnt.refl _ | exact ObEnt.junk | exact ObEnt.zero | exact ObEnt.push rfl rfl | exact ObEnt.pushRow rfl | exact ObEnt.len (by omega) | exact ObEnt.row (by repeat' (first | exact trivial | (first | exact Ent.refl _ | exact inc_ent (by omega) | exact Ent.nil rfl | exact Ent.of_eq (congrArg (AV.osl _ _ _) (by first | omega | (dsimp only; omega))) | exact Ent.of_eq (congrArg (AV.int _) (by first | omega | (dsimp only; omega)))) | refine And.intro ?_ ?_)), by first | exact ObEnt.refl _ | exact ObEnt.junk | exact ObEnt.zero | exact ObEnt.push rfl rfl | exact ObEnt.pushRow rfl | exact ObEnt.len (by omega) | exact ObEnt.row (by repeat' (first | exact trivial | (first | exact Ent.refl _ | exact inc_ent (by omega) | exact Ent.nil rfl | exact Ent.of_eq (congrArg (AV.osl _ _ _) (by first | omega | (dsimp only; omega))) | exact Ent.of_eq (congrArg (AV.int _) (by first | omega | (dsimp only; omega)))) | refine And.intro ?_ ?_)), ObEnt.setR (P := fun i j => Nat.beq i 0 && Nat.beq j (0 + Int.toNat ((x49.1 : Nat) : Int))) (c0 := x49.1) (G := fun j => bif Nat.blt j (x49.1 + 1) then outF (ST (padLen n / 64)) j else 0) (fun j _ => by show (true && Nat.beq j (0 + x49.1)) = _; rw [Nat.zero_add]; rfl) (by rw [blt_t (Nat.lt_succ_self _)]; exact out_v (by omega)) (fun j _ he => fill_step he), trivial⟩)) (by first | omega | (dsimp only; omega) | (simp; omega))
    · have g50 := cnd_dec_f h50
      exact k_out (Ent.of_eq (by
                                                                                                     show AV.agg ((List.range 32).map fun j => .int .u8 (bif Nat.blt j x49.1 then outF (ST (padLen n / 64)) j else 0)) = AV.agg ((List.range 32).map fun j => .int .u8 (outF (ST (padLen n / 64)) j))
                                                                                                     exact congrArg AV.agg (List.map_congr_left fun j hj => by rw [blt_t (by have := List.mem_range.1 hj; omega)]; rfl)))

theorem rsum_c (f : Nat → Int) (n : Nat) (hn : n ≤ 1099511627776) (hf : byB f n) : Pure Tryz.prog gl0 137 [bys n f] (.agg (u8c (shaF n f))) :=
  rsum_r f n hn hf (fun k => wordF (fun i => padF n f (64 * k + i))) (stateF (padF n f)) (fun k => roundF (stateF (padF n f) k) (wordF (fun i => padF n f (64 * k + i)))) rfl (fun _ _ i h => word_congr h i) (fun _ => rnd _ _) (fun _ _ => rfl)

end Go.Proofs.YtmhipmiacghgeaaGreatDoor

namespace Go.Sp
open Go Go.Am

/-- The bytes of a string. -/
def strF (s : ByteArray) (i : Nat) : Int := (s.data.toList.getD i 0).toNat
/-- A digest twice, and what is tagged. -/
def tagC (t f : Nat → Int) (i : Nat) : Int := bif Nat.blt i 64 then bif Nat.blt i 32 then t i else t (i - 32) else f (i - 64)
def tagF (s : ByteArray) (n : Nat) (f : Nat → Int) : Nat → Int := shaF (64 + n) (tagC (shaF s.size (strF s)) f)

theorem strB (s : ByteArray) (n : Nat) : byB (strF s) n := fun i _ => by
  have := (s.data.toList.getD i 0).toNat_lt
  unfold strF
  omega
theorem sha_by (n : Nat) (f : Nat → Int) (i : Nat) : 0 ≤ shaF n f i ∧ shaF n f i < 256 := by
  unfold shaF outF
  exact ⟨Int.emod_nonneg _ (by decide), Int.emod_lt_of_pos _ (by decide)⟩
theorem tag_by (s : ByteArray) (n : Nat) (f : Nat → Int) (hf : byB f n) : byB (tagC (shaF s.size (strF s)) f) (64 + n) := fun i hi => by
  unfold tagC
  by_cases h : i < 64
  · rw [blt_t h]
    cases Nat.blt i 32 with
    | true => exact sha_by _ _ _
    | false => exact sha_by _ _ _
  · rw [blt_f (Nat.le_of_not_lt h)]
    exact hf _ (by omega)
/-- The number of the first i bytes, by m. -/
def numF (f : Nat → Int) (m : Int) : Nat → Int
  | 0 => 0
  | i + 1 => (numF f m i * 256 + f i) % m
theorem num_by {f : Nat → Int} {m : Int} (hm : 0 < m) : ∀ i, 0 ≤ numF f m i ∧ numF f m i < m
  | 0 => ⟨Int.le_refl _, hm⟩
  | _ + 1 => ⟨Int.emod_nonneg _ (by omega), Int.emod_lt_of_pos _ hm⟩
theorem num_step {f : Nat → Int} {m : Int} (i : Nat) : (numF f m i * (256 % m) % m + f i) % m = numF f m (i + 1) := by
  show _ = (numF f m i * 256 + f i) % m
  rw [Int.emod_add_emod, ← Int.emod_add_emod (numF f m i * (256 % m)), Int.mul_emod, Int.emod_emod_of_dvd _ (Int.dvd_refl m), ← Int.mul_emod, Int.emod_add_emod]
theorem rem256 {m : Int} (hm : 0 < m) (hm' : m < 2305843009213693952) : Int.tmod 256 m = 256 % m ∧ 0 ≤ 256 % m ∧ 256 % m < m := by
  have h1 : 0 ≤ 256 % m := Int.emod_nonneg _ (by omega)
  have h2 : 256 % m < m := Int.emod_lt_of_pos _ hm
  exact ⟨by rw [tmod_nn (by omega)], h1, h2⟩
theorem num_le {f : Nat → Int} {m : Int} (hm : 0 < m) (hm' : m < 2305843009213693952) (hf : byB f 32) {i : Nat} (hi : i < 16) : IntKind.wrap .i64 (numF f m i * Int.tmod 256 m % m + IntKind.wrap .i64 (intOfAV (atL (u8c f) (0 + (i : Int).toNat)))) % m = numF f m (i + 1) := by
  have a1 : 0 ≤ numF f m i * (256 % m) % m := Int.emod_nonneg _ (by omega)
  have a2 : numF f m i * (256 % m) % m < m := Int.emod_lt_of_pos _ hm
  have a3 := hf i (by omega)
  rw [Int.toNat_natCast, Nat.zero_add, u8c_at (by omega), (rem256 hm hm').1]
  show IntKind.wrap .i64 (_ + IntKind.wrap .i64 (f i)) % m = _
  rw [wI (n := f i) (by omega) (by omega), wI (by omega) (by omega), num_step]
theorem sha_congr {n : Nat} {f g : Nat → Int} (h : ∀ i, i < n → f i = g i) : shaF n f = shaF n g := by
  have e : padF n f = padF n g := funext fun i => by
    have e0 : pad0 n f i = pad0 n g i := by
      unfold pad0
      by_cases hi : i < n
      · rw [h i hi]
      · rw [blt_f (Nat.le_of_not_lt hi)]
        rfl
    unfold padF
    rw [e0]
  unfold shaF
  rw [e]
/-- What the program's digest gathers. -/
theorem tag_at {t f : Nat → Int} (i : Nat) : (bif Nat.blt (i + 0) 64 then bif Nat.blt (i + 0) 32 then intOfAV (atL (u8c t) (0 + (0 + (i + 0)))) else intOfAV (atL (u8c t) (0 + (0 + (i + 0 - 32)))) else f (i + 0 - 64)) = tagC t f i := by
  unfold tagC
  rw [Nat.add_zero]
  by_cases h : i < 64
  · rw [blt_t h]
    by_cases h' : i < 32
    · rw [blt_t h', Nat.zero_add, Nat.zero_add, u8c_at h']
      rfl
    · have e := u8c_at (g := t) (show i - 32 < 32 by omega)
      rw [blt_f (Nat.le_of_not_lt h')]
      simp only [Nat.zero_add, e]
      rfl
  · rw [blt_f (Nat.le_of_not_lt h)]
    rfl
theorem by_congr {f g : Nat → Int} {n : Nat} (h : ∀ i, f i = g i) (hg : byB g n) : byB f n := fun i hi => by
  rw [h i]
  exact hg i hi
/-- A number doubled k times, by m. -/
def dblF (x m : Int) : Nat → Int
  | 0 => x
  | k + 1 => (dblF x m k + dblF x m k) % m
theorem dbl_by {x m : Int} (hm : 0 < m) (h : 0 ≤ x ∧ x < m) : ∀ k, 0 ≤ dblF x m k ∧ dblF x m k < m
  | 0 => h
  | _ + 1 => ⟨Int.emod_nonneg _ (by omega), Int.emod_lt_of_pos _ hm⟩
theorem dbl_eq {x m : Int} (h : 0 ≤ x ∧ x < m) : ∀ k, dblF x m k = x * 2 ^ k % m
  | 0 => by
    show x = _
    rw [Int.pow_zero, Int.mul_one, Int.emod_eq_of_lt h.1 h.2]
  | k + 1 => by
    show (dblF x m k + dblF x m k) % m = _
    rw [dbl_eq h k, ← Int.add_emod, Int.pow_succ, ← Int.mul_assoc]
    congr 1
    omega
theorem num_dbl {f : Nat → Int} {m : Int} (hm : 0 < m) (i : Nat) : (dblF (numF f m i) m 8 + f i % m) % m = numF f m (i + 1) := by
  rw [dbl_eq (num_by hm i), ← Int.add_emod]
  rfl
theorem num_fin {f : Nat → Int} {m : Int} (hm : 0 < m) (hf : byB f 32) {i k : Nat} (hi : i < 16) (hk : k = 8) :
    (dblF (numF f m i) m k + Int.tmod (IntKind.wrap .i64 (intOfAV (atL (u8c f) (0 + (0 + (i : Int).toNat))))) m) % m = numF f m (i + 1) := by
  have a3 := hf i (by omega)
  subst hk
  rw [Int.toNat_natCast, Nat.zero_add, Nat.zero_add, u8c_at (by omega), wI (n := f i) (by omega) (by omega), tmod_nn (by omega), num_dbl hm]
theorem num_arg {f : Nat → Int} {m : Int} (hm : 0 < m) (hf : byB f 32) {i : Nat} (hi : i < 16) :
    0 ≤ Int.tmod (IntKind.wrap .i64 (intOfAV (atL (u8c f) (0 + (0 + (i : Int).toNat))))) m ∧ Int.tmod (IntKind.wrap .i64 (intOfAV (atL (u8c f) (0 + (0 + (i : Int).toNat))))) m < m := by
  have a3 := hf i (by omega)
  rw [Int.toNat_natCast, Nat.zero_add, Nat.zero_add, u8c_at (by omega), wI (n := f i) (by omega) (by omega), tmod_nn (by omega)]
  exact ⟨Int.emod_nonneg _ (by omega), Int.emod_lt_of_pos _ hm⟩
end Go.Sp

namespace Go.Proofs.YtmhipmiacghgeaaGreatDoor
open Go Go.Am Go.Sp
set_option maxRecDepth 100000

/-- Which functions hand over what they make. -/
def ow2 : FuncId → Option (List Bool) := fun f => bif Nat.beq f 156 || Nat.beq f 138 then some [false] else none

theorem join_g (f g : Nat → Int) (n : Nat) (hn : n ≤ 1099511627776) : Gives Tryz.prog gl0 138 [] [bys n f, .agg (u8c g)] (.osl 0 1 0 (n + 32)) [some ⟨1, n + 32, true, .fn fun i _ => .int .u8 (bif Nat.blt i n then f i else g (i - n))⟩] := by
  refine gives_sk (own := ow0) (hand := true) Tryz.func138 (by kernel_rfl) mixed (by kernel_rfl)
    (.req ((0 + n) * 1 ≤ 140737488355328) (.loop ({ x : Nat // x ≤ (32 : Nat) }) (fun (x : { x : Nat // x ≤ (32 : Nat) }) => mkSt [3, 5, 6] [AV.own (0) (32) (0) (0) (32), AV.osl (1 : Nat) (1 : Nat) (0 : Nat) (n + Subtype.val x), Zi (↑(Subtype.val x) : Int)] [some { es := 32, n := 1, mu := true, f := Rep.lst [u8c g] }, some { es := (1 : Nat), n := n + Subtype.val x, mu := true, f := Rep.fn fun (i x : Nat) => Zb (bif Nat.blt i n then f i else g (i - n)) }]) (fun (x : { x : Nat // x ≤ (32 : Nat) }) => (32 : Nat) - Subtype.val x) (⟨(0 : Nat), Nat.zero_le (32 : Nat)⟩) ([3, 5, 6]) ([0, 32]) ([AV.own (0) (32) (0) (0) (32), AV.osl (1) (1) (0) (0 + n), Zi 0]) ([some { es := 32, n := 1, mu := true, f := Rep.lst [u8c g] }, some { es := 1, n := 0 + n, mu := true, f := Rep.fn fun (i j : Nat) => Zb (f i) }]) (fun x1 => (.br (decide ((↑x1.1 : Int) < (32 : Int))) (.req ((0 : Int) ≤ (↑x1.1 : Int) ∧ (↑x1.1 : Int) < (↑(32) : Int)) (.req ((n + x1.1 + 1) * 1 ≤ 140737488355328) (.again (Again (0) (fun (x : { x : Nat // x ≤ (32 : Nat) }) => mkSt [3, 5, 6] [AV.own (0) (32) (0) (0) (32), AV.osl (1 : Nat) (1 : Nat) (0 : Nat) (n + Subtype.val x), Zi (↑(Subtype.val x) : Int)] [some { es := 32, n := 1, mu := true, f := Rep.lst [u8c g] }, some { es := (1 : Nat), n := n + Subtype.val x, mu := true, f := Rep.fn fun (i x : Nat) => Zb (bif Nat.blt i n then f i else g (i - n)) }]) (fun (x : { x : Nat // x ≤ (32 : Nat) }) => (32 : Nat) - Subtype.val x) x1) ([3, 5, 6]) ([0, 58]) ([AV.own (0) (32) (0) (0) (32), AV.osl (1) (1) (0) (n + x1.1 + 1), Zi (IntKind.wrap IntKind.i64 ((↑x1.1 : Int) + (1 : Int)))]) ([some { es := 32, n := 1, mu := true, f := Rep.lst [u8c g] }, some { es := 1, n := n + x1.1 + 1, mu := true, f := Rep.fn fun (i j : Nat) => Zb (bif Nat.blt i (n + x1.1) then bif Nat.blt i n then f i else g (i - n) else intOfAV (atL [Zb (intOfAV (Rep.at (Ob.f (Ob.seen { es := 32, n := 1, mu := true, f := Rep.lst [u8c g] })) (0) (0 + Int.toNat (↑(Subtype.val x1) : Int))))] j)) }])))) (.out (AV.osl (0) (1) (0) (n + x1.1)) ([some { es := 1, n := n + x1.1, mu := true, f := Rep.fn fun (i j : Nat) => Zb (bif Nat.blt i n then f i else g (i - n)) }]) (AV.osl (0 : Nat) (1 : Nat) (0 : Nat) (n + (32 : Nat))) ([some { es := (1 : Nat), n := n + (32 : Nat), mu := true, f := Rep.fn fun (i x : Nat) => Zb (bif Nat.blt i n then f i else g (i - n)) }]))))))
    (by kernel_rfl) ?_
  refine k_req (by first | omega | (simp only [Int.toNat_natCast]; omega)) ?_
  --LOOPINFO kept [3] changed [5, 6] objects [0, 32]
  --LOOPINFO   obj 0: some { es := 32, n := 1, mu := true, f := Rep.lst [u8c g] }
  refine k_loop (fun _ hs => hs.le (⟨by first | exact Ent.refl _ | exact inc_ent (by omega) | exact Ent.nil rfl | exact Ent.of_eq (congrArg (AV.osl _ _ _) (by first | omega | (dsimp only; omega))) | exact Ent.of_eq (congrArg (AV.int _) (by first | omega | (dsimp only; omega))), Ent.of_eq (congrArg (AV.osl 1 1 0) (by dsimp only; omega)), by first | exact Ent.refl _ | exact inc_ent (by omega) | exact Ent.nil rfl | exact Ent.of_eq (congrArg (AV.osl _ _ _) (by first | omega | (dsimp only; omega))) | exact Ent.of_eq (congrArg (AV.int _) (by first | omega | (dsimp only; omega))), trivial⟩) (⟨by first | exact ObEnt.refl _ | exact ObEnt.junk | exact ObEnt.zero | exact ObEnt.push rfl rfl | exact ObEnt.pushRow rfl | exact ObEnt.len (by omega) | exact ObEnt.row (by repeat' (first | exact trivial | (first | exact Ent.refl _ | exact inc_ent (by omega) | exact Ent.nil rfl | exact Ent.of_eq (congrArg (AV.osl _ _ _) (by first | omega | (dsimp only; omega))) | exact Ent.of_eq (congrArg (AV.int _) (by first | omega | (dsimp only; omega)))) | refine And.intro ?_ ?_)), join_ob, trivial⟩)) (fun x1 => ?_)
  try (have q1 := x1.2; dsimp only at q1)
  refine k_br (fun h2 => ?_) (fun h2 => ?_)
  · have g2 := cnd_dec_t h2
    refine k_req (by first | omega | (simp only [Int.toNat_natCast]; omega)) ?_
    refine k_req (by first | omega | (simp only [Int.toNat_natCast]; omega)) ?_
    exact k_again (⟨x1.1 + 1, by omega⟩) (fun _ hs => hs.le (⟨by first | exact Ent.refl _ | exact inc_ent (by omega) | exact Ent.nil rfl | exact Ent.of_eq (congrArg (AV.osl _ _ _) (by first | omega | (dsimp only; omega))) | exact Ent.of_eq (congrArg (AV.int _) (by first | omega | (dsimp only; omega))), Ent.of_eq (congrArg (AV.osl 1 1 0) (by dsimp only; omega)), by first | exact Ent.refl _ | exact inc_ent (by omega) | exact Ent.nil rfl | exact Ent.of_eq (congrArg (AV.osl _ _ _) (by first | omega | (dsimp only; omega))) | exact Ent.of_eq (congrArg (AV.int _) (by first | omega | (dsimp only; omega))), trivial⟩) (⟨by first | exact ObEnt.refl _ | exact ObEnt.junk | exact ObEnt.zero | exact ObEnt.push rfl rfl | exact ObEnt.pushRow rfl | exact ObEnt.len (by omega) | exact ObEnt.row (by repeat' (first | exact trivial | (first | exact Ent.refl _ | exact inc_ent (by omega) | exact Ent.nil rfl | exact Ent.of_eq (congrArg (AV.osl _ _ _) (by first | omega | (dsimp only; omega))) | exact Ent.of_eq (congrArg (AV.int _) (by first | omega | (dsimp only; omega)))) | refine And.intro ?_ ?_)), ObEnt.pushF (F := fun i => bif Nat.blt i n then f i else g (i - n)) (by dsimp only; omega) (by show intOfAV (atL (u8c g) (0 + x1.1)) = bif Nat.blt (n + x1.1) n then f (n + x1.1) else g (n + x1.1 - n); rw [Nat.zero_add, blt_f (by omega), u8c_at (by omega)]; show g _ = g _; congr 1; omega), trivial⟩)) (by first | omega | (dsimp only; omega) | (simp; omega))
  · have g2 := cnd_dec_f h2
    exact k_outg (Ent.of_eq (congrArg (AV.osl 0 1 0) (by omega))) (⟨⟨rfl, by simp only; omega, rfl, fun i j _ _ => Ent.refl _⟩, trivial⟩)

theorem join_gn (g : Nat → Int) : Gives Tryz.prog gl0 138 [] [.nsl, .agg (u8c g)] (.osl 0 1 0 32) [some ⟨1, 32, true, .fn fun i _ => .int .u8 (g i)⟩] :=
  (join_g (fun _ => 0) g 0 (by omega)).via ⟨Ent.nsl, Ent.refl _, trivial⟩

theorem rtagged_c (s : ByteArray) (hs : s.size ≤ 100) (f : Nat → Int) (n : Nat) (hn : n ≤ 1099511627000) (hf : byB f n) : Pure Tryz.prog gl0 97 [.str s, bys n f] (.agg (u8c (tagF s n f))) := by
  refine pure_sk (own := ow2) Tryz.func97 (by kernel_rfl) mixed (by kernel_rfl)
    (.sc (true) 137 ([AV.isl (1) (ByteArray.size s) fun (i x : Nat) => Zb (↑(UInt8.toNat (List.getD (Array.toList (ByteArray.data s)) i (0 : UInt8))) : Int)]) (AV.agg (u8c (shaF (ByteArray.size s) fun (i : Nat) => (↑(UInt8.toNat (List.getD (Array.toList (ByteArray.data s)) i (0 : UInt8))) : Int)))) (.gc 138 ([]) ([AV.nsl, AV.agg (u8c (shaF (ByteArray.size s) fun (i : Nat) => (↑(UInt8.toNat (List.getD (Array.toList (ByteArray.data s)) i (0 : UInt8))) : Int)))]) (AV.osl (0 : Nat) (1 : Nat) (0 : Nat) (32 : Nat)) ([some { es := (1 : Nat), n := (32 : Nat), mu := true, f := Rep.fn fun (i x : Nat) => Zb (shaF (ByteArray.size s) (fun (i : Nat) => (↑(UInt8.toNat (List.getD (Array.toList (ByteArray.data s)) i (0 : UInt8))) : Int)) i) }]) (.gc 138 ([]) ([AV.isl (1) (32) fun (r k : Nat) => Zb (shaF (ByteArray.size s) (fun (i : Nat) => (↑(UInt8.toNat (List.getD (Array.toList (ByteArray.data s)) i (0 : UInt8))) : Int)) (r + 0)), AV.agg (u8c (shaF (ByteArray.size s) fun (i : Nat) => (↑(UInt8.toNat (List.getD (Array.toList (ByteArray.data s)) i (0 : UInt8))) : Int)))]) (AV.osl (0 : Nat) (1 : Nat) (0 : Nat) (32 + (32 : Nat))) ([some { es := (1 : Nat), n := 32 + (32 : Nat), mu := true, f := Rep.fn fun (i x : Nat) => Zb (bif Nat.blt i (32) then shaF (ByteArray.size s) (fun (i : Nat) => (↑(UInt8.toNat (List.getD (Array.toList (ByteArray.data s)) i (0 : UInt8))) : Int)) (i + 0) else shaF (ByteArray.size s) (fun (i : Nat) => (↑(UInt8.toNat (List.getD (Array.toList (ByteArray.data s)) i (0 : UInt8))) : Int)) (i - 32)) }]) (.req ((64 + n) * 1 ≤ 140737488355328) (.sc (true) 137 ([AV.isl (1) (64 + n) fun (r k : Nat) => Zb (bif Nat.blt (r + 0) (64) then bif Nat.blt (r + 0) (32) then shaF (ByteArray.size s) (fun (i : Nat) => (↑(UInt8.toNat (List.getD (Array.toList (ByteArray.data s)) i (0 : UInt8))) : Int)) (r + 0 + 0) else shaF (ByteArray.size s) (fun (i : Nat) => (↑(UInt8.toNat (List.getD (Array.toList (ByteArray.data s)) i (0 : UInt8))) : Int)) (r + 0 - 32) else f (r + 0 - 64))]) (AV.agg (u8c (shaF (64 + n) fun (i : Nat) => bif Nat.blt (i + 0) (64) then bif Nat.blt (i + 0) (32) then shaF (ByteArray.size s) (fun (i : Nat) => (↑(UInt8.toNat (List.getD (Array.toList (ByteArray.data s)) i (0 : UInt8))) : Int)) (i + 0 + 0) else shaF (ByteArray.size s) (fun (i : Nat) => (↑(UInt8.toNat (List.getD (Array.toList (ByteArray.data s)) i (0 : UInt8))) : Int)) (i + 0 - 32) else f (i + 0 - 64)))) (.out (AV.agg (u8c (shaF (64 + n) fun (i : Nat) => bif Nat.blt (i + 0) (64) then bif Nat.blt (i + 0) (32) then shaF (ByteArray.size s) (fun (i : Nat) => (↑(UInt8.toNat (List.getD (Array.toList (ByteArray.data s)) i (0 : UInt8))) : Int)) (i + 0 + 0) else shaF (ByteArray.size s) (fun (i : Nat) => (↑(UInt8.toNat (List.getD (Array.toList (ByteArray.data s)) i (0 : UInt8))) : Int)) (i + 0 - 32) else f (i + 0 - 64)))) [] (AV.agg (u8c (tagF s n f))) []))))))
    (by kernel_rfl) ?_
  refine k_sc (rsum_c (fun (i : Nat) => (↑(UInt8.toNat (List.getD (Array.toList (ByteArray.data s)) i (0 : UInt8))) : Int)) (ByteArray.size s) (by first | omega | exact strB s _ | exact tag_by s n f hf) (by first | omega | exact strB s _ | exact tag_by s n f hf)) ?_
  refine k_gc (join_gn (shaF (ByteArray.size s) fun (i : Nat) => (↑(UInt8.toNat (List.getD (Array.toList (ByteArray.data s)) i (0 : UInt8))) : Int))) ?_
  refine k_gc (join_g (fun (i : Nat) => shaF (ByteArray.size s) (fun (i : Nat) => (↑(UInt8.toNat (List.getD (Array.toList (ByteArray.data s)) i (0 : UInt8))) : Int)) (i + 0)) (shaF (ByteArray.size s) fun (i : Nat) => (↑(UInt8.toNat (List.getD (Array.toList (ByteArray.data s)) i (0 : UInt8))) : Int)) (32) (by first | omega | exact strB s _ | exact tag_by s n f hf)) ?_
  refine k_req (by first | omega | (simp only [Int.toNat_natCast]; omega)) ?_
  refine k_sc (rsum_c (fun (i : Nat) => bif Nat.blt (i + 0) (64) then bif Nat.blt (i + 0) (32) then shaF (ByteArray.size s) (fun (i : Nat) => (↑(UInt8.toNat (List.getD (Array.toList (ByteArray.data s)) i (0 : UInt8))) : Int)) (i + 0 + 0) else shaF (ByteArray.size s) (fun (i : Nat) => (↑(UInt8.toNat (List.getD (Array.toList (ByteArray.data s)) i (0 : UInt8))) : Int)) (i + 0 - 32) else f (i + 0 - 64)) (64 + n) (by first | omega | exact strB s _ | exact tag_by s n f hf) (by first | omega | exact strB s _ | exact tag_by s n f hf)) ?_
  exact k_out (Ent.refl _)

end Go.Proofs.YtmhipmiacghgeaaGreatDoor

namespace Go.Proofs.YtmhipmiacghgeaaGreatDoor
open Go Go.Am Go.Sp
set_option maxRecDepth 100000

theorem rnumber_c (f : Nat → Int) (m : Int) (hm : 0 < m) (hm' : m < 2305843009213693952) (hf : byB f 32) : Pure Tryz.prog gl0 101 [.agg (u8c f), .int .i64 m] (.int .i64 (numF f m 16)) := by
  have r := rem256 hm hm'
  refine pure_sk (own := ow0) Tryz.func101 (by kernel_rfl) mixed (by kernel_rfl)
    (.loop ({ x : Nat // x ≤ (16 : Nat) }) (fun (x : { x : Nat // x ≤ (16 : Nat) }) => mkSt [1, 2, 5, 6] [Zi m, AV.own (0) (32) (0) (0) (32), Zi (numF f m (Subtype.val x)), Zi (↑(Subtype.val x) : Int)] [some { es := 32, n := 1, mu := true, f := Rep.lst [u8c f] }]) (fun (x : { x : Nat // x ≤ (16 : Nat) }) => (16 : Nat) - Subtype.val x) (⟨(0 : Nat), Nat.zero_le (16 : Nat)⟩) ([1, 2, 5, 6]) ([0]) ([Zi m, AV.own (0) (32) (0) (0) (32), Zi 0, Zi 0]) ([some { es := 32, n := 1, mu := true, f := Rep.lst [u8c f] }]) (fun x0 => (.br (decide ((↑x0.1 : Int) < (16 : Int))) (.req (m ≠ (0 : Int)) (.sc (true) 68 ([Zi (numF f m x0.1), Zi (Int.tmod (256 : Int) m), Zi m]) (Zi (numF f m x0.1 * Int.tmod (256 : Int) m % m)) (.req ((0 : Int) ≤ (↑x0.1 : Int) ∧ (↑x0.1 : Int) < (↑(32) : Int)) (.sc (true) 116 ([Zi (IntKind.wrap IntKind.i64 (numF f m x0.1 * Int.tmod (256 : Int) m % m + IntKind.wrap IntKind.i64 (intOfAV (atL (u8c f) (0 + Int.toNat (↑x0.1 : Int)))))), Zi m]) (Zi (IntKind.wrap IntKind.i64 (numF f m x0.1 * Int.tmod (256 : Int) m % m + IntKind.wrap IntKind.i64 (intOfAV (atL (u8c f) (0 + Int.toNat (↑x0.1 : Int))))) % m)) (.again (Again (0) (fun (x : { x : Nat // x ≤ (16 : Nat) }) => mkSt [1, 2, 5, 6] [Zi m, AV.own (0) (32) (0) (0) (32), Zi (numF f m (Subtype.val x)), Zi (↑(Subtype.val x) : Int)] [some { es := 32, n := 1, mu := true, f := Rep.lst [u8c f] }]) (fun (x : { x : Nat // x ≤ (16 : Nat) }) => (16 : Nat) - Subtype.val x) x0) ([1, 2, 5, 6]) ([0]) ([Zi m, AV.own (0) (32) (0) (0) (32), Zi (IntKind.wrap IntKind.i64 (numF f m x0.1 * Int.tmod (256 : Int) m % m + IntKind.wrap IntKind.i64 (intOfAV (atL (u8c f) (0 + Int.toNat (↑x0.1 : Int))))) % m), Zi (IntKind.wrap IntKind.i64 ((↑x0.1 : Int) + (1 : Int)))]) ([some { es := 32, n := 1, mu := true, f := Rep.lst [u8c f] }])))))) (.out (Zi (numF f m x0.1)) [] (Zi (numF f m (16 : Nat))) []))))
    (by kernel_rfl) ?_
  --LOOPINFO kept [1, 2] changed [5, 6] objects [0]
  --LOOPINFO   obj 0: some { es := 32, n := 1, mu := true, f := Rep.lst [u8c f] }
  refine k_loop (fun _ hs => hs.le (by repeat' (first | exact trivial | (first | exact Ent.refl _ | exact inc_ent (by omega) | exact Ent.nil rfl | exact Ent.of_eq (congrArg (AV.osl _ _ _) (by first | omega | (dsimp only; omega))) | exact Ent.of_eq (congrArg (AV.int _) (by first | omega | (dsimp only; omega)))) | refine And.intro ?_ ?_)) (by repeat' (first | exact trivial | (first | exact ObEnt.refl _ | exact ObEnt.junk | exact ObEnt.zero | exact ObEnt.push rfl rfl | exact ObEnt.pushRow rfl | exact ObEnt.len (by omega) | exact ObEnt.row (by repeat' (first | exact trivial | (first | exact Ent.refl _ | exact inc_ent (by omega) | exact Ent.nil rfl | exact Ent.of_eq (congrArg (AV.osl _ _ _) (by first | omega | (dsimp only; omega))) | exact Ent.of_eq (congrArg (AV.int _) (by first | omega | (dsimp only; omega)))) | refine And.intro ?_ ?_))) | refine And.intro ?_ ?_))) (fun x0 => ?_)
  try (have q0 := x0.2; dsimp only at q0)
  have n0 := num_by (f := f) hm x0.1
  refine k_br (fun h1 => ?_) (fun h1 => ?_)
  · have g1 := cnd_dec_t h1
    refine k_req (by first | omega | (simp only [Int.toNat_natCast]; omega)) ?_
    refine k_sc (rmul_c (numF f m x0.1) (Int.tmod (256 : Int) m) (m) (by first | omega | (rw [r.1]; omega)) (by first | omega | (rw [r.1]; omega)) (by first | omega | (rw [r.1]; omega)) (by first | omega | (rw [r.1]; omega)) (by first | omega | (rw [r.1]; omega))) ?_
    refine k_req (by first | omega | (simp only [Int.toNat_natCast]; omega)) ?_
    refine k_sc (rreduce_c (IntKind.wrap IntKind.i64 (numF f m x0.1 * Int.tmod (256 : Int) m % m + IntKind.wrap IntKind.i64 (intOfAV (atL (u8c f) (0 + Int.toNat (↑x0.1 : Int)))))) (m) (by first | omega | (rw [r.1]; omega)) (by first | omega | (rw [r.1]; omega))) ?_
    exact k_again (⟨x0.1 + 1, by omega⟩) (fun _ hs => hs.le (⟨by first | exact Ent.refl _ | exact inc_ent (by omega) | exact Ent.nil rfl | exact Ent.of_eq (congrArg (AV.osl _ _ _) (by first | omega | (dsimp only; omega))) | exact Ent.of_eq (congrArg (AV.int _) (by first | omega | (dsimp only; omega))), by first | exact Ent.refl _ | exact inc_ent (by omega) | exact Ent.nil rfl | exact Ent.of_eq (congrArg (AV.osl _ _ _) (by first | omega | (dsimp only; omega))) | exact Ent.of_eq (congrArg (AV.int _) (by first | omega | (dsimp only; omega))), Ent.of_eq (congrArg _ (num_le hm hm' hf (by omega))), by first | exact Ent.refl _ | exact inc_ent (by omega) | exact Ent.nil rfl | exact Ent.of_eq (congrArg (AV.osl _ _ _) (by first | omega | (dsimp only; omega))) | exact Ent.of_eq (congrArg (AV.int _) (by first | omega | (dsimp only; omega))), trivial⟩) (by repeat' (first | exact trivial | (first | exact ObEnt.refl _ | exact ObEnt.junk | exact ObEnt.zero | exact ObEnt.push rfl rfl | exact ObEnt.pushRow rfl | exact ObEnt.len (by omega) | exact ObEnt.row (by repeat' (first | exact trivial | (first | exact Ent.refl _ | exact inc_ent (by omega) | exact Ent.nil rfl | exact Ent.of_eq (congrArg (AV.osl _ _ _) (by first | omega | (dsimp only; omega))) | exact Ent.of_eq (congrArg (AV.int _) (by first | omega | (dsimp only; omega)))) | refine And.intro ?_ ?_))) | refine And.intro ?_ ?_))) (by first | omega | (dsimp only; omega) | (simp; omega))
  · have g1 := cnd_dec_f h1
    exact k_out (Ent.of_eq (congrArg _ (by rw [show x0.1 = 16 by omega])))

end Go.Proofs.YtmhipmiacghgeaaGreatDoor

namespace Go.Proofs.YtmhipmiacghgeaaGreatDoor
open Go Go.Am Go.Sp
set_option maxRecDepth 100000

theorem tagged_c (s : ByteArray) (hs : s.size ≤ 100) (h1 : 1 ≤ s.size) (f : Nat → Int) (n : Nat) (hn : n ≤ 1099511627000) (hf : byB f n) : Pure Tryz.prog gl0 128 [.str s, bys n f] (.tup [.agg (u8c (tagF s n f)), .int .i64 0]) := by
  refine pure_sk (own := ow2) Tryz.func128 (by kernel_rfl) mixed (by kernel_rfl)
    (.br (decide ((↑(ByteArray.size s) : Int) < (1 : Int)) || decide ((↑(ByteArray.size s) : Int) > (100 : Int))) (.out (AV.tup [AV.agg [Zb 0, Zb 0, Zb 0, Zb 0, Zb 0, Zb 0, Zb 0, Zb 0, Zb 0, Zb 0, Zb 0, Zb 0, Zb 0, Zb 0, Zb 0, Zb 0, Zb 0, Zb 0, Zb 0, Zb 0, Zb 0, Zb 0, Zb 0, Zb 0, Zb 0, Zb 0, Zb 0, Zb 0, Zb 0, Zb 0, Zb 0, Zb 0], Zi 2]) [] (AV.tup [AV.agg (u8c (tagF s n f)), Zi 0]) []) (.sc (true) 155 ([AV.isl (1) (ByteArray.size s) fun (i x : Nat) => Zb (↑(UInt8.toNat (List.getD (Array.toList (ByteArray.data s)) i (0 : UInt8))) : Int)]) (AV.agg (u8c (shaF (ByteArray.size s) fun (i : Nat) => (↑(UInt8.toNat (List.getD (Array.toList (ByteArray.data s)) i (0 : UInt8))) : Int)))) (.gc 156 ([]) ([AV.isl (1) (32) fun (r x : Nat) => Zb (intOfAV (atL (u8c (shaF (ByteArray.size s) fun (i : Nat) => (↑(UInt8.toNat (List.getD (Array.toList (ByteArray.data s)) i (0 : UInt8))) : Int))) (0 + (0 + r))))]) (AV.osl (0 : Nat) (1 : Nat) (0 : Nat) (32)) ([some { es := (1 : Nat), n := 32, mu := true, f := Rep.fn fun (i x : Nat) => Zb (intOfAV (atL (u8c (shaF (ByteArray.size s) fun (i : Nat) => (↑(UInt8.toNat (List.getD (Array.toList (ByteArray.data s)) i (0 : UInt8))) : Int))) (0 + (0 + i)))) }]) (.req (64 ≤ 140737488355328) (.req ((64 + n) * 1 ≤ 140737488355328) (.sc (true) 155 ([AV.isl (1) (64 + n) fun (r k : Nat) => Zb (bif Nat.blt (r + 0) (64) then bif Nat.blt (r + 0) (32) then intOfAV (atL (u8c (shaF (ByteArray.size s) fun (i : Nat) => (↑(UInt8.toNat (List.getD (Array.toList (ByteArray.data s)) i (0 : UInt8))) : Int))) (0 + (0 + (r + 0)))) else intOfAV (atL (u8c (shaF (ByteArray.size s) fun (i : Nat) => (↑(UInt8.toNat (List.getD (Array.toList (ByteArray.data s)) i (0 : UInt8))) : Int))) (0 + (0 + (r + 0 - 32)))) else f (r + 0 - 64))]) (AV.agg (u8c (shaF (64 + n) fun (i : Nat) => bif Nat.blt (i + 0) (64) then bif Nat.blt (i + 0) (32) then intOfAV (atL (u8c (shaF (ByteArray.size s) fun (i : Nat) => (↑(UInt8.toNat (List.getD (Array.toList (ByteArray.data s)) i (0 : UInt8))) : Int))) (0 + (0 + (i + 0)))) else intOfAV (atL (u8c (shaF (ByteArray.size s) fun (i : Nat) => (↑(UInt8.toNat (List.getD (Array.toList (ByteArray.data s)) i (0 : UInt8))) : Int))) (0 + (0 + (i + 0 - 32)))) else f (i + 0 - 64)))) (.out (AV.tup [AV.agg (u8c (shaF (64 + n) fun (i : Nat) => bif Nat.blt (i + 0) (64) then bif Nat.blt (i + 0) (32) then intOfAV (atL (u8c (shaF (ByteArray.size s) fun (i : Nat) => (↑(UInt8.toNat (List.getD (Array.toList (ByteArray.data s)) i (0 : UInt8))) : Int))) (0 + (0 + (i + 0)))) else intOfAV (atL (u8c (shaF (ByteArray.size s) fun (i : Nat) => (↑(UInt8.toNat (List.getD (Array.toList (ByteArray.data s)) i (0 : UInt8))) : Int))) (0 + (0 + (i + 0 - 32)))) else f (i + 0 - 64))), Zi 0]) [] (AV.tup [AV.agg (u8c (tagF s n f)), Zi 0]) [])))))))
    (by kernel_rfl) ?_
  refine k_br (fun h0 => ?_) (fun h0 => ?_)
  · have g0 := (cnd_or_t cnd_dec_t cnd_dec_t) h0
    exact k_out ((by exfalso; omega))
  · have g0 := (cnd_or_f cnd_dec_f cnd_dec_f) h0
    refine k_sc (sum_c (fun (i : Nat) => (↑(UInt8.toNat (List.getD (Array.toList (ByteArray.data s)) i (0 : UInt8))) : Int)) (ByteArray.size s) (by first | omega | exact strB s _ | exact by_congr (fun i => tag_at i) (tag_by s n f hf)) (by first | omega | exact strB s _ | exact by_congr (fun i => tag_at i) (tag_by s n f hf))) ?_
    refine k_gc (cloneB2_c (fun (i : Nat) => intOfAV (atL (u8c (shaF (ByteArray.size s) fun (i : Nat) => (↑(UInt8.toNat (List.getD (Array.toList (ByteArray.data s)) i (0 : UInt8))) : Int))) (0 + (0 + i)))) (32) (by first | omega | exact strB s _ | exact by_congr (fun i => tag_at i) (tag_by s n f hf))) ?_
    refine k_req (by first | omega | (simp only [Int.toNat_natCast]; omega)) ?_
    refine k_req (by first | omega | (simp only [Int.toNat_natCast]; omega)) ?_
    refine k_sc (sum_c (fun (i : Nat) => bif Nat.blt (i + 0) (64) then bif Nat.blt (i + 0) (32) then intOfAV (atL (u8c (shaF (ByteArray.size s) fun (i : Nat) => (↑(UInt8.toNat (List.getD (Array.toList (ByteArray.data s)) i (0 : UInt8))) : Int))) (0 + (0 + (i + 0)))) else intOfAV (atL (u8c (shaF (ByteArray.size s) fun (i : Nat) => (↑(UInt8.toNat (List.getD (Array.toList (ByteArray.data s)) i (0 : UInt8))) : Int))) (0 + (0 + (i + 0 - 32)))) else f (i + 0 - 64)) (64 + n) (by first | omega | exact strB s _ | exact by_congr (fun i => tag_at i) (tag_by s n f hf)) (by first | omega | exact strB s _ | exact by_congr (fun i => tag_at i) (tag_by s n f hf))) ?_
    exact k_out (Ent.of_eq (congrArg (fun t => AV.tup [.agg (u8c t), .int .i64 0]) (sha_congr fun i _ => tag_at i)))

end Go.Proofs.YtmhipmiacghgeaaGreatDoor

namespace Go.Proofs.YtmhipmiacghgeaaGreatDoor
open Go Go.Am Go.Sp
set_option maxRecDepth 100000

theorem wadd_ok (a b m : Int) (ha : 0 ≤ a ∧ a < m) (hb : 0 ≤ b ∧ b < m) (hm' : m < 2305843009213693952) : Pure Tryz.prog gl0 168 [.int .i64 a, .int .i64 b, .int .i64 m] (.tup [.int .i64 ((a + b) % m), .int .i64 0]) := by
  have h := wadd_c a b m
  rw [chk_ok (by omega) hm' ha.1 ha.2 hb.1 hb.2, okv0] at h
  exact h

theorem number_c (f : Nat → Int) (m : Int) (hm : 0 < m) (hm' : m < 2305843009213693952) (hf : byB f 32) : Pure Tryz.prog gl0 143 [.agg (u8c f), .int .i64 m] (.tup [.int .i64 (numF f m 16), .int .i64 0]) := by
  refine pure_sk (own := ow0) Tryz.func143 (by kernel_rfl) mixed (by kernel_rfl)
    (.br (decide (m < (1 : Int)) || decide (m ≥ (2305843009213693952 : Int))) (.out (AV.tup [Zi 0, Zi 1]) [] (AV.tup [Zi (numF f m (16 : Nat)), Zi 0]) []) (.req ((0 : Int) ≤ (16 : Int) ∧ (16 : Int) ≤ (↑(32) : Int)) (.loop ({ x : Nat // x ≤ (16 : Nat) }) (fun (x : { x : Nat // x ≤ (16 : Nat) }) => mkSt [1, 15, 16, 6, 17] [Zi m, AV.isl (1) (16) fun (r x : Nat) => Zb (intOfAV (atL (u8c f) (0 + (0 + r)))), Zi (↑(16) : Int), Zi (numF f m (Subtype.val x)), Zi (↑(Subtype.val x) : Int)] []) (fun (x : { x : Nat // x ≤ (16 : Nat) }) => (16 : Nat) - Subtype.val x) (⟨(0 : Nat), Nat.zero_le (16 : Nat)⟩) ([1, 15, 16, 6, 17]) ([]) ([Zi m, AV.isl (1) (16) fun (r x : Nat) => Zb (intOfAV (atL (u8c f) (0 + (0 + r)))), Zi (↑(16) : Int), Zi 0, Zi 0]) ([]) (fun x3 => (.br (decide ((↑x3.1 : Int) < (↑(16) : Int))) (.req ((0 : Int) ≤ (↑x3.1 : Int) ∧ (↑x3.1 : Int) < (↑(16) : Int)) (.loop ({ x : Nat // x ≤ (8 : Nat) }) (fun (x : { x : Nat // x ≤ (8 : Nat) }) => mkSt [1, 8, 15, 16, 17, 6, 21] [Zi m, Zb (intOfAV (atL (u8c f) (0 + (0 + Int.toNat (↑x3.1 : Int))))), AV.isl (1) (16) fun (r x : Nat) => Zb (intOfAV (atL (u8c f) (0 + (0 + r)))), Zi (↑(16) : Int), Zi (↑x3.1 : Int), Zi (dblF (numF f m (Subtype.val x3)) m (Subtype.val x)), Zi (↑(Subtype.val x) : Int)] []) (fun (x : { x : Nat // x ≤ (8 : Nat) }) => (8 : Nat) - Subtype.val x) (⟨(0 : Nat), Nat.zero_le (8 : Nat)⟩) ([1, 8, 15, 16, 17, 6, 21]) ([]) ([Zi m, Zb (intOfAV (atL (u8c f) (0 + (0 + Int.toNat (↑x3.1 : Int))))), AV.isl (1) (16) fun (r x : Nat) => Zb (intOfAV (atL (u8c f) (0 + (0 + r)))), Zi (↑(16) : Int), Zi (↑x3.1 : Int), Zi (numF f m x3.1), Zi 0]) ([]) (fun x6 => (.br (decide ((↑x6.1 : Int) < (8 : Int))) (.sc (true) 168 ([Zi (dblF (numF f m x3.1) m x6.1), Zi (dblF (numF f m x3.1) m x6.1), Zi m]) (AV.tup [Zi ((dblF (numF f m x3.1) m x6.1 + dblF (numF f m x3.1) m x6.1) % m), Zi 0]) (.again (Again (0) (fun (x : { x : Nat // x ≤ (8 : Nat) }) => mkSt [1, 8, 15, 16, 17, 6, 21] [Zi m, Zb (intOfAV (atL (u8c f) (0 + (0 + Int.toNat (↑x3.1 : Int))))), AV.isl (1) (16) fun (r x : Nat) => Zb (intOfAV (atL (u8c f) (0 + (0 + r)))), Zi (↑(16) : Int), Zi (↑x3.1 : Int), Zi (dblF (numF f m (Subtype.val x3)) m (Subtype.val x)), Zi (↑(Subtype.val x) : Int)] []) (fun (x : { x : Nat // x ≤ (8 : Nat) }) => (8 : Nat) - Subtype.val x) x6) ([1, 8, 15, 16, 17, 6, 21]) ([]) ([Zi m, Zb (intOfAV (atL (u8c f) (0 + (0 + Int.toNat (↑x3.1 : Int))))), AV.isl (1) (16) fun (r x : Nat) => Zb (intOfAV (atL (u8c f) (0 + (0 + r)))), Zi (↑(16) : Int), Zi (↑x3.1 : Int), Zi ((dblF (numF f m x3.1) m x6.1 + dblF (numF f m x3.1) m x6.1) % m), Zi (IntKind.wrap IntKind.i64 ((↑x6.1 : Int) + (1 : Int)))]) ([]))) (.req (m ≠ (0 : Int)) (.sc (true) 168 ([Zi (dblF (numF f m x3.1) m x6.1), Zi (Int.tmod (IntKind.wrap IntKind.i64 (intOfAV (atL (u8c f) (0 + (0 + Int.toNat (↑x3.1 : Int)))))) m), Zi m]) (AV.tup [Zi ((dblF (numF f m x3.1) m x6.1 + Int.tmod (IntKind.wrap IntKind.i64 (intOfAV (atL (u8c f) (0 + (0 + Int.toNat (↑x3.1 : Int)))))) m) % m), Zi 0]) (.again (Again (0) (fun (x : { x : Nat // x ≤ (16 : Nat) }) => mkSt [1, 15, 16, 6, 17] [Zi m, AV.isl (1) (16) fun (r x : Nat) => Zb (intOfAV (atL (u8c f) (0 + (0 + r)))), Zi (↑(16) : Int), Zi (numF f m (Subtype.val x)), Zi (↑(Subtype.val x) : Int)] []) (fun (x : { x : Nat // x ≤ (16 : Nat) }) => (16 : Nat) - Subtype.val x) x3) ([1, 15, 16, 6, 17]) ([]) ([Zi m, AV.isl (1) (16) fun (r x : Nat) => Zb (intOfAV (atL (u8c f) (0 + (0 + r)))), Zi (↑(16) : Int), Zi ((dblF (numF f m x3.1) m x6.1 + Int.tmod (IntKind.wrap IntKind.i64 (intOfAV (atL (u8c f) (0 + (0 + Int.toNat (↑x3.1 : Int)))))) m) % m), Zi (IntKind.wrap IntKind.i64 ((↑x3.1 : Int) + (1 : Int)))]) ([])))))))) (.out (AV.tup [Zi (numF f m x3.1), Zi 0]) [] (AV.tup [Zi (numF f m (16 : Nat)), Zi 0]) []))))))
    (by kernel_rfl) ?_
  refine k_br (fun h0 => ?_) (fun h0 => ?_)
  · have g0 := (cnd_or_t cnd_dec_t cnd_dec_t) h0
    exact k_out ((by exfalso; omega))
  · have g0 := (cnd_or_f cnd_dec_f cnd_dec_f) h0
    refine k_req (by first | omega | (simp only [Int.toNat_natCast]; omega)) ?_
    --LOOPINFO kept [1, 15, 16] changed [6, 17] objects []
    refine k_loop (fun _ hs => hs.le (by repeat' (first | exact trivial | (first | exact Ent.refl _ | exact inc_ent (by omega) | exact Ent.nil rfl | exact Ent.of_eq (congrArg (AV.osl _ _ _) (by first | omega | (dsimp only; omega))) | exact Ent.of_eq (congrArg (AV.int _) (by first | omega | (dsimp only; omega)))) | refine And.intro ?_ ?_)) (trivial)) (fun x3 => ?_)
    try (have q3 := x3.2; dsimp only at q3)
    have n0 := num_by (f := f) hm x3.1
    refine k_br (fun h4 => ?_) (fun h4 => ?_)
    · have g4 := cnd_dec_t h4
      refine k_req (by first | omega | (simp only [Int.toNat_natCast]; omega)) ?_
      --LOOPINFO kept [1, 8, 15, 16, 17] changed [6, 21] objects []
      refine k_loop (fun _ hs => hs.le (by repeat' (first | exact trivial | (first | exact Ent.refl _ | exact inc_ent (by omega) | exact Ent.nil rfl | exact Ent.of_eq (congrArg (AV.osl _ _ _) (by first | omega | (dsimp only; omega))) | exact Ent.of_eq (congrArg (AV.int _) (by first | omega | (dsimp only; omega)))) | refine And.intro ?_ ?_)) (trivial)) (fun x6 => ?_)
      try (have q6 := x6.2; dsimp only at q6)
      have n1 := dbl_by hm n0 x6.1
      refine k_br (fun h7 => ?_) (fun h7 => ?_)
      · have g7 := cnd_dec_t h7
        refine k_sc (wadd_ok (dblF (numF f m x3.1) m x6.1) (dblF (numF f m x3.1) m x6.1) (m) (by first | omega | exact num_arg hm hf (by omega)) (by first | omega | exact num_arg hm hf (by omega)) (by first | omega | exact num_arg hm hf (by omega))) ?_
        exact k_again (⟨x6.1 + 1, by omega⟩) (fun _ hs => hs.le (by repeat' (first | exact trivial | (first | exact Ent.refl _ | exact inc_ent (by omega) | exact Ent.nil rfl | exact Ent.of_eq (congrArg (AV.osl _ _ _) (by first | omega | (dsimp only; omega))) | exact Ent.of_eq (congrArg (AV.int _) (by first | omega | (dsimp only; omega)))) | refine And.intro ?_ ?_)) (trivial)) (by first | omega | (dsimp only; omega) | (simp; omega))
      · have g7 := cnd_dec_f h7
        refine k_req (by first | omega | (simp only [Int.toNat_natCast]; omega)) ?_
        refine k_sc (wadd_ok (dblF (numF f m x3.1) m x6.1) (Int.tmod (IntKind.wrap IntKind.i64 (intOfAV (atL (u8c f) (0 + (0 + Int.toNat (↑x3.1 : Int)))))) m) (m) (by first | omega | exact num_arg hm hf (by omega)) (by first | omega | exact num_arg hm hf (by omega)) (by first | omega | exact num_arg hm hf (by omega))) ?_
        exact k_again (⟨x3.1 + 1, by omega⟩) (fun _ hs => hs.le (⟨by first | exact Ent.refl _ | exact inc_ent (by omega) | exact Ent.nil rfl | exact Ent.of_eq (congrArg (AV.osl _ _ _) (by first | omega | (dsimp only; omega))) | exact Ent.of_eq (congrArg (AV.int _) (by first | omega | (dsimp only; omega))), by first | exact Ent.refl _ | exact inc_ent (by omega) | exact Ent.nil rfl | exact Ent.of_eq (congrArg (AV.osl _ _ _) (by first | omega | (dsimp only; omega))) | exact Ent.of_eq (congrArg (AV.int _) (by first | omega | (dsimp only; omega))), by first | exact Ent.refl _ | exact inc_ent (by omega) | exact Ent.nil rfl | exact Ent.of_eq (congrArg (AV.osl _ _ _) (by first | omega | (dsimp only; omega))) | exact Ent.of_eq (congrArg (AV.int _) (by first | omega | (dsimp only; omega))), Ent.of_eq (congrArg _ (num_fin hm hf (by omega) (by omega))), by first | exact Ent.refl _ | exact inc_ent (by omega) | exact Ent.nil rfl | exact Ent.of_eq (congrArg (AV.osl _ _ _) (by first | omega | (dsimp only; omega))) | exact Ent.of_eq (congrArg (AV.int _) (by first | omega | (dsimp only; omega))), trivial⟩) (trivial)) (by first | omega | (dsimp only; omega) | (simp; omega))
    · have g4 := cnd_dec_f h4
      exact k_out (Ent.tup ⟨Ent.of_eq (congrArg _ (by rw [show x3.1 = 16 by omega])), Ent.refl _, trivial⟩)

end Go.Proofs.YtmhipmiacghgeaaGreatDoor

namespace Go.Sp
open Go Go.Am

/-- The bytes of a number. -/
def numB (n : Int) (size i : Nat) : Int := n / 256 ^ (size - 1 - i) % 256
/-- What stands in the slice after t rounds. -/
def numT (n : Int) (size t i : Nat) : Int := bif Nat.blt i (size - t) then 0 else numB n size i
theorem num_z {n : Int} {size i j : Nat} (hi : i < size) (hj : j < 1) : intOfAV (atL (zcells (.int .u8 0)) j) = numT n size 0 i := by
  obtain rfl : j = 0 := Nat.lt_one_iff.1 hj
  unfold numT
  rw [blt_t (by omega)]
  rfl
theorem num_full {n : Int} {size t i : Nat} (h : size ≤ t) : numT n size t i = numB n size i := by
  unfold numT
  rw [blt_f (by omega)]
  rfl
theorem num_q {n : Int} (h0 : 0 ≤ n) (t : Nat) : Int.tdiv (n / 256 ^ t) 256 = n / 256 ^ (t + 1) := by
  have h : 0 ≤ n / 256 ^ t := Int.ediv_nonneg h0 (Int.pow_nonneg (by omega))
  rw [tdiv_nn h, Int.pow_succ, Int.ediv_ediv_of_nonneg (Int.pow_nonneg (by omega))]
theorem num_qw {n : Int} (h0 : 0 ≤ n) (hn : n < 18446744073709551616) (t : Nat) : IntKind.wrap .u64 (Int.tdiv (n / 256 ^ t) 256) = n / 256 ^ (t + 1) := by
  have h1 : 0 ≤ n / 256 ^ (t + 1) := Int.ediv_nonneg h0 (Int.pow_nonneg (by omega))
  have h2 : n / 256 ^ (t + 1) ≤ n := Int.ediv_le_self _ h0
  rw [num_q h0, wu64 h1 (by omega)]
theorem num_s {n : Int} {size t i j : Nat} (h0 : 0 ≤ n) (ht : t < size) (hj : j < 1) :
    (bif Nat.beq i (Int.toNat ((size : Int) - 1 - t) + 0) && (Nat.ble 0 j && Nat.blt j 1) then IntKind.wrap .u8 (Int.tmod (n / 256 ^ t) 256) else numT n size t i) = numT n size (t + 1) i := by
  obtain rfl : j = 0 := Nat.lt_one_iff.1 hj
  have h : 0 ≤ n / 256 ^ t := Int.ediv_nonneg h0 (Int.pow_nonneg (by omega))
  have e : Int.toNat ((size : Int) - 1 - t) + 0 = size - 1 - t := by omega
  rw [e]
  by_cases hi : i = size - 1 - t
  · subst hi
    have e2 : size - 1 - (size - 1 - t) = t := by omega
    rw [Nat.beq_refl]
    show IntKind.wrap .u8 (Int.tmod (n / 256 ^ t) 256) = bif Nat.blt (size - 1 - t) (size - (t + 1)) then 0 else n / 256 ^ (size - 1 - (size - 1 - t)) % 256
    rw [blt_f (show size - (t + 1) ≤ size - 1 - t by omega), e2, wu8m, tmod_nn h]
    show _ % 256 % 256 = n / 256 ^ t % 256
    omega
  · have hb : Nat.beq i (size - 1 - t) = false := by
      cases hb : Nat.beq i (size - 1 - t) with
      | false => rfl
      | true => exact absurd (Nat.eq_of_beq_eq_true hb) hi
    rw [hb]
    show (bif Nat.blt i (size - t) then 0 else numB n size i) = (bif Nat.blt i (size - (t + 1)) then 0 else numB n size i)
    by_cases hl : i < size - (t + 1)
    · rw [blt_t hl, blt_t (show i < size - t by omega)]
    · rw [blt_f (Nat.le_of_not_lt hl), blt_f (show size - t ≤ i by omega)]
end Go.Sp

namespace Go.Proofs.YtmhipmiacghgeaaGreatDoor
open Go Go.Am Go.Sp
set_option maxRecDepth 100000

theorem rnum7_c (n : Int) (h0 : 0 ≤ n) (hn : n < 18446744073709551616) (size : Nat) (hs : 1 ≤ size) (hs' : size ≤ 8) : Pure Tryz.prog gl0 139 [.int .u64 n, .int .i64 size] (bys size (numB n size)) := by
  refine pure_sk (own := ow0) Tryz.func139 (by kernel_rfl) mixed (by kernel_rfl)
    (.req ((0 : Int) ≤ (↑size : Int) ∧ (↑size : Int) = (↑size : Int) ∧ (↑(1) : Int) * (↑size : Int) ≤ (140737488355328 : Int) ∧ (↑size : Int) ≤ (9223372036854775807 : Int)) (.loop ({ x : Nat // x ≤ size }) (fun (x : { x : Nat // x ≤ size }) => mkSt [5, 0, 6] [AV.osl (0) (1) (0) (Int.toNat (↑size : Int)), Zu (n / (256 : Int) ^ Subtype.val x), Zi ((↑size : Int) - (1 : Int) - (↑(Subtype.val x) : Int))] [some { es := (1 : Nat), n := size, mu := true, f := Rep.fn fun (i x_1 : Nat) => Zb (numT n size (Subtype.val x) i) }]) (fun (x : { x : Nat // x ≤ size }) => size - Subtype.val x) (⟨(0 : Nat), Nat.zero_le size⟩) ([5, 0, 6]) ([16]) ([AV.osl (0) (1) (0) (Int.toNat (↑size : Int)), Zu n, Zi (IntKind.wrap IntKind.i64 ((↑size : Int) - (1 : Int)))]) ([some { es := 1, n := Int.toNat (↑size : Int), mu := true, f := Rep.fn fun (i j : Nat) => Zb (intOfAV (atL (zcells (Value.int IntKind.u8 (0 : Int))) j)) }]) (fun x1 => (.br (decide ((↑size : Int) - (1 : Int) - (↑x1.1 : Int) ≥ (0 : Int))) (.req ((0 : Int) ≤ (↑size : Int) - (1 : Int) - (↑x1.1 : Int) ∧ (↑size : Int) - (1 : Int) - (↑x1.1 : Int) < (↑(Int.toNat (↑size : Int)) : Int)) (.again (Again (0) (fun (x : { x : Nat // x ≤ size }) => mkSt [5, 0, 6] [AV.osl (0) (1) (0) (Int.toNat (↑size : Int)), Zu (n / (256 : Int) ^ Subtype.val x), Zi ((↑size : Int) - (1 : Int) - (↑(Subtype.val x) : Int))] [some { es := (1 : Nat), n := size, mu := true, f := Rep.fn fun (i x_1 : Nat) => Zb (numT n size (Subtype.val x) i) }]) (fun (x : { x : Nat // x ≤ size }) => size - Subtype.val x) x1) ([5, 0, 6]) ([0]) ([AV.osl (0) (1) (0) (Int.toNat (↑size : Int)), Zu (IntKind.wrap IntKind.u64 (Int.tdiv (n / (256 : Int) ^ x1.1) (256 : Int))), Zi (IntKind.wrap IntKind.i64 ((↑size : Int) - (1 : Int) - (↑x1.1 : Int) - (1 : Int)))]) ([some { es := 1, n := size, mu := true, f := Rep.fn fun (i j : Nat) => Zb (bif Nat.beq i (Int.toNat ((↑size : Int) - (1 : Int) - (↑x1.1 : Int)) + 0) && (Nat.ble (0) j && Nat.blt j (1)) then IntKind.wrap IntKind.u8 (Int.tmod (n / (256 : Int) ^ x1.1) (256 : Int)) else numT n size x1.1 i) }]))) (.out (AV.isl (1) (Int.toNat (↑size : Int)) fun (r k : Nat) => Zb (numT n size x1.1 (r + 0))) [] (bys size (numB n size)) [])))))
    (by kernel_rfl) ?_
  refine k_req (by first | omega | (simp only [Int.toNat_natCast]; omega)) ?_
  --LOOPINFO kept [5] changed [0, 6] objects [16]
  refine k_loop (fun _ hs => hs.le (⟨by first | exact Ent.refl _ | exact inc_ent (by omega) | exact Ent.nil rfl | exact Ent.of_eq (congrArg (AV.osl _ _ _) (by first | omega | (dsimp only; omega))) | exact Ent.of_eq (congrArg (AV.int _) (by first | omega | (dsimp only; omega))), by first | exact Ent.refl _ | exact inc_ent (by omega) | exact Ent.nil rfl | exact Ent.of_eq (congrArg (AV.osl _ _ _) (by first | omega | (dsimp only; omega))) | exact Ent.of_eq (congrArg (AV.int _) (by first | omega | (dsimp only; omega))), Ent.of_eq (congrArg _ (by rw [wI (by omega) (by omega)]; dsimp only; omega)), trivial⟩) (⟨⟨rfl, by first | rfl | simp, rfl, fun i j hi hj => Ent.of_eq (congrArg _ (num_z hi hj))⟩, trivial⟩)) (fun x1 => ?_)
  try (have q1 := x1.2; dsimp only at q1)
  refine k_br (fun h2 => ?_) (fun h2 => ?_)
  · have g2 := cnd_dec_t h2
    refine k_req (by first | omega | (simp only [Int.toNat_natCast]; omega)) ?_
    exact k_again (⟨x1.1 + 1, by omega⟩) (fun _ hs => hs.le (⟨by first | exact Ent.refl _ | exact inc_ent (by omega) | exact Ent.nil rfl | exact Ent.of_eq (congrArg (AV.osl _ _ _) (by first | omega | (dsimp only; omega))) | exact Ent.of_eq (congrArg (AV.int _) (by first | omega | (dsimp only; omega))), Ent.of_eq (congrArg _ (num_qw h0 hn _)), Ent.of_eq (congrArg _ (by rw [wI (by omega) (by omega)]; dsimp only; omega)), trivial⟩) (⟨⟨rfl, rfl, rfl, fun i j hi hj => Ent.of_eq (congrArg _ (num_s h0 (by omega) hj))⟩, trivial⟩)) (by first | omega | (dsimp only; omega) | (simp; omega))
  · have g2 := cnd_dec_f h2
    exact k_out (bys_eq (by omega) (fun i _ => num_full (by omega)))

end Go.Proofs.YtmhipmiacghgeaaGreatDoor

namespace Go.Am
open Go.RowKit Go.ChangeShapes Go.WideShapes Go.ChangeAt

/-- What a cell holds. -/
inductive CT where
  | int (k : IntKind)
  | bool
  | str
  | sl (cs : List CT)

inductive CellOk : CT → AV → Prop where
  | int {k : IntKind} {n : Int} (h : (Lit.int k n).wf = true) : CellOk (.int k) (.int k n)
  | bool {b : Bool} : CellOk .bool (.bool b)
  | str {s : ByteArray} (h : s.size ≤ maxLen) : CellOk .str (.str s)
  | sl {cs : List CT} {n : Nat} {f : Nat → Nat → AV} (hn : n ≤ maxLen) (h : ∀ (i j : Nat) c, i < n → cs[j]? = some c → CellOk c (f i j)) : CellOk (.sl cs) (.isl cs.length n f)

def shapeFs (P : Program) (sh : TypeId → Option (List CT)) : Nat → List Field → Option (List CT)
  | _, [] => some []
  | off, f :: fs => match sh f.type with
    | some l => bif Nat.beq f.offset off && Nat.beq l.length (P.cellsOf f.type) then (match shapeFs P sh (off + l.length) fs with | some r => some (l ++ r) | none => none) else none
    | none => none

/-- The cells of a type. -/
def shape (P : Program) : Nat → TypeId → Option (List CT)
  | 0, _ => none
  | n + 1, t => match P.underlying t with
    | some .bool => some [.bool]
    | some (.int k) => some [.int k]
    | some .string => some [.str]
    | some (.slice e) => match shape P n e with
      | some l => bif Nat.beq l.length (P.cellsOf e) && Nat.blt 0 l.length then some [.sl l] else none
      | none => none
    | some (.struct fs) => match shapeFs P (shape P n) 0 fs.toList with
      | some l => bif Nat.beq l.length (P.cellsOf t) then some l else none
      | none => none
    | some (.array m e) => match shape P n e with
      | some l => bif Nat.beq l.length (P.cellsOf e) && Nat.beq (m * l.length) (P.cellsOf t) then some (List.replicate m l).flatten else none
      | none => none
    | _ => none

abbrev noB : Book := Book.none fun _ => False
theorem noB_free (b : Nat) : noB.free b := ⟨fun h => h, fun _ _ h => by cases h⟩

/-- Cells of some types. -/
structure Fits (w : World) (ts : List CT) (cs : List Value) : Prop where
  len : cs.length = ts.length
  cell : ∀ (j : Nat) c, ts[j]? = some c → ∃ v a, cs[j]? = some v ∧ CellOk c a ∧ Rel noB w a v ∧ v.oneCell' = true

theorem Fits.nil {w : World} : Fits w [] [] := ⟨rfl, fun j c h => by simp at h⟩
theorem Fits.one {w : World} {c : CT} {v : Value} {a : AV} (h : CellOk c a) (hr : Rel noB w a v) (ho : v.oneCell' = true) : Fits w [c] [v] := by
  refine ⟨rfl, fun j c' hj => ?_⟩
  cases j with
  | zero => simp at hj; subst hj; exact ⟨v, a, rfl, h, hr, ho⟩
  | succ j => simp at hj
theorem Fits.append {w : World} {ts ts' : List CT} {cs cs' : List Value} (h : Fits w ts cs) (h' : Fits w ts' cs') : Fits w (ts ++ ts') (cs ++ cs') := by
  refine ⟨by simp [h.len, h'.len], fun j c hj => ?_⟩
  by_cases hl : j < ts.length
  · rw [List.getElem?_append_left hl] at hj
    rw [List.getElem?_append_left (by rw [h.len]; exact hl)]
    exact h.cell j c hj
  · rw [List.getElem?_append_right (by omega)] at hj
    rw [List.getElem?_append_right (by rw [h.len]; omega), h.len]
    exact h'.cell _ c hj

theorem mapM_each {α β : Type} {f : α → Option β} {l : List α} {r : List β} (h : l.mapM f = some r) {x : α} (hx : x ∈ l) : ∃ y, f x = some y := by
  obtain ⟨i, hi, rfl⟩ := List.getElem_of_mem hx
  have h1 := mapM_some_length h
  have h2 := mapM_some_get h i _ (List.getElem?_eq_getElem hi)
  rw [h2, List.getElem?_eq_getElem (by omega)]
  exact ⟨_, rfl⟩

theorem drop_take_split {cs : List Value} {off a b : Nat} : (cs.drop off).take (a + b) = (cs.drop off).take a ++ (cs.drop (off + a)).take b := by
  rw [List.take_add, List.drop_drop]

section
variable {H : Type} {enc : TypeId × Value → H} {P : Program} {w : World} {sp : Nat → Bool}

theorem fits_fields {sh : TypeId → Option (List CT)} {cs : List Value} : ∀ (fs : List Field) (off : Nat) (ts : List CT), shapeFs P sh off fs = some ts → (∀ f ∈ fs, ∀ l, sh f.type = some l → Fits w l ((cs.drop f.offset).take (P.cellsOf f.type))) →
    Fits w ts ((cs.drop off).take ts.length) := by
  intro fs
  induction fs with
  | nil => intro off ts h _; simp [shapeFs] at h; subst h; simpa using Fits.nil
  | cons f fs ih =>
    intro off ts h hf
    simp only [shapeFs] at h
    cases hl : sh f.type with
    | none => simp [hl] at h
    | some l =>
      simp only [hl] at h
      obtain ⟨hc, h2⟩ := bif_some h
      rw [Bool.and_eq_true] at hc
      have e1 := Nat.eq_of_beq_eq_true hc.1
      have e2 := Nat.eq_of_beq_eq_true hc.2
      cases hr : shapeFs P sh (off + l.length) fs with
      | none => simp [hr] at h2
      | some r =>
        simp only [hr, Option.some.injEq] at h2
        subst h2
        have g1 := hf f (List.mem_cons_self ..) l hl
        have g2 := ih (off + l.length) r hr (fun f' hf' => hf f' (List.mem_cons_of_mem _ hf'))
        rw [e1, ← e2] at g1
        rw [List.length_append, drop_take_split]
        exact g1.append g2

theorem fits_elems {cs : List Value} {l : List CT} : ∀ n : Nat, (∀ i, i < n → Fits w l ((cs.drop (i * l.length)).take l.length)) → Fits w (List.replicate n l).flatten (cs.take (n * l.length)) := by
  intro n
  induction n with
  | zero => intro _; simpa using Fits.nil
  | succ n ih =>
    intro h
    have g1 := ih (fun i hi => h i (by omega))
    have g2 := h n (by omega)
    have e : cs.take ((n + 1) * l.length) = cs.take (n * l.length) ++ (cs.drop (n * l.length)).take l.length := by
      rw [Nat.add_mul, Nat.one_mul, List.take_add]
    have e2 : (List.replicate (n + 1) l).flatten = (List.replicate n l).flatten ++ l := by
      rw [List.replicate_succ', List.flatten_append]; simp
    rw [e, e2]
    exact g1.append g2

theorem open_fits : ∀ (m : Nat) (t : TypeId) (fuel : Nat) (cs : List Value) (x : DataW H × List MemPlace) (ts : List CT), DataW.trod enc P w 0 sp true fuel t cs = some x → shape P m t = some ts → Fits w ts cs := by
  intro m
  induction m with
  | zero => intro t fuel cs x ts _ h; simp [shape] at h
  | succ m ih =>
    intro t fuel cs x ts htr hsh
    simp only [shape] at hsh
    cases fuel with
    | zero => simp [DataW.trod] at htr
    | succ fuel =>
      split at hsh
      · rename_i hu
        simp only [Option.some.injEq] at hsh; subst hsh
        simp only [DataW.trod, hu] at htr
        split at htr <;> simp_all
        exact .one .bool .bool rfl
      · rename_i k hu
        simp only [Option.some.injEq] at hsh; subst hsh
        simp only [DataW.trod, hu] at htr
        split at htr <;> simp_all
        obtain ⟨⟨rfl, hw⟩, _⟩ := htr
        exact .one (.int hw) .int rfl
      · rename_i hu
        simp only [Option.some.injEq] at hsh; subst hsh
        simp only [DataW.trod, hu] at htr
        split at htr <;> simp_all
        exact .one (.str htr.1) .str rfl
      · rename_i e hu
        split at hsh
        · rename_i l hl
          obtain ⟨hc, h2⟩ := bif_some hsh
          clear hsh
          rw [Bool.and_eq_true, Nat.blt_eq] at hc
          have e1 := Nat.eq_of_beq_eq_true hc.1
          cases h2
          rcases Go.Deep.open_slice hu htr with ⟨rfl, _⟩ | ⟨a, len, cap, m', n, D, Pl, rfl, hb, hlc, hm, hmm, _, hx⟩
          · exact .one (a := .isl l.length 0 fun _ _ => .junk) (.sl (Nat.zero_le _) (fun i j c hi => absurd hi (by omega))) (.isl0 fun _ => rfl) rfl
          · have hlm : len ≤ m' := by rw [hmm]; split <;> omega
            have hrow : ∀ i, i < len → ∃ cs', w.cells? 0 (a.add (i * l.length)) l.length = some cs' ∧ Fits w l cs' := fun i hi => by
              obtain ⟨cs', h1, h2⟩ := hx i (by omega)
              rw [← e1] at h1
              exact ⟨cs', h1, ih e n cs' _ l h2 hl⟩
            obtain ⟨C, hC⟩ := Go.Deep.choose_lt hrow
            have hcell : ∀ i j c, i < len → l[j]? = some c → ∃ p : Value × AV, w.cell? (a.add (i * l.length + j)) = some p.1 ∧ CellOk c p.2 ∧ Rel noB w p.2 p.1 ∧ p.1.oneCell' = true := fun i j c hi hj => by
              obtain ⟨h1, h2⟩ := hC i hi
              obtain ⟨v, av, g1, g2, g3, g4⟩ := h2.cell j c hj
              obtain ⟨_, k1, k2⟩ := World.cells?_some h1
              refine ⟨(v, av), ?_, g2, g3, g4⟩
              have hjl : j < l.length := (List.getElem?_eq_some_iff.1 hj).1
              have := k2 j hjl
              rw [Go.Deep.add_add, g1] at this
              exact this
            have hex : ∀ i, i < len → ∃ g : Nat → Value × AV, ∀ j, j < l.length → ∃ c, l[j]? = some c ∧ w.cell? (a.add (i * l.length + j)) = some (g j).1 ∧ CellOk c (g j).2 ∧ Rel noB w (g j).2 (g j).1 ∧ (g j).1.oneCell' = true := fun i hi => by
              have : Inhabited (Value × AV) := ⟨(.bool true, .junk)⟩
              exact Go.Deep.choose_lt (p := fun j (g : Value × AV) => ∃ c, l[j]? = some c ∧ w.cell? (a.add (i * l.length + j)) = some g.1 ∧ CellOk c g.2 ∧ Rel noB w g.2 g.1 ∧ g.1.oneCell' = true) (fun j hj => by
                obtain ⟨p, h1, h2, h3, h4⟩ := hcell i j l[j] hi (by simp [hj])
                exact ⟨p, l[j], by simp [hj], h1, h2, h3, h4⟩)
            have : Inhabited (Nat → Value × AV) := ⟨fun _ => (.bool true, .junk)⟩
            obtain ⟨G, hG⟩ := Go.Deep.choose_lt hex
            refine .one (a := .isl l.length len fun i j => (G i j).2) (.sl (by omega) (fun i j c hi hj => ?_)) ?_ rfl
            · have hjl : j < l.length := (List.getElem?_eq_some_iff.1 hj).1
              obtain ⟨c', g1, _, g3, _⟩ := hG i hi j hjl
              rw [hj] at g1; cases g1
              exact g3
            · rcases Nat.eq_zero_or_pos len with rfl | hpos
              · exact .isl0 (fun h => by cases h)
              · obtain ⟨b, off, spot⟩ := a
                have hspot : spot = none := by
                  obtain ⟨c', _, g2, _⟩ := hG 0 hpos 0 hc.2
                  have := World.cell?_spot g2
                  simpa [Addr.add] using this
                subst hspot
                refine .isl (fun i j => (G i j).1) hc.2 hlc (noB_free b) (fun i j hi hj => ?_) (fun i j hi hj => ?_) (fun i j hi hj => ?_) (fun i j hi hj => ?_)
                · obtain ⟨c', _, g2, _⟩ := hG i hi j hj
                  rw [← g2]
                  congr 1
                  unfold Addr.add
                  split
                  · rename_i h0
                    have : i * l.length = 0 := by omega
                    have : j = 0 := by omega
                    simp [*]
                  · simp; omega
                · obtain ⟨c', _, _, _, _, g5⟩ := hG i hi j hj; exact g5
                · obtain ⟨c', _, _, _, g4, _⟩ := hG i hi j hj; exact g4
                · obtain ⟨c', _, _, _, g4, _⟩ := hG i hi j hj; exact g4.closed
        · cases hsh
      · rename_i fs hu
        split at hsh
        · rename_i l hl
          obtain ⟨hc, h2⟩ := bif_some hsh
          clear hsh
          have h3 : l = ts := Option.some.inj h2
          subst h3
          have e1 := Nat.eq_of_beq_eq_true hc
          simp only [DataW.trod, hu] at htr
          split at htr
          · rename_i hlen
            obtain ⟨xs, hxs, _⟩ := Option.map_eq_some_iff.1 htr
            have := fits_fields (w := w) (P := P) (cs := cs) fs.toList 0 l hl (fun f hf lf hlf => by
              obtain ⟨y, hy⟩ := mapM_each hxs hf
              exact ih f.type fuel _ y lf hy hlf)
            rw [e1, ← hlen] at this
            simpa using this
          · cases htr
        · cases hsh
      · rename_i n e hu
        split at hsh
        · rename_i l hl
          obtain ⟨hc, h2⟩ := bif_some hsh
          clear hsh
          cases h2
          rw [Bool.and_eq_true] at hc
          have e1 := Nat.eq_of_beq_eq_true hc.1
          have e2 := Nat.eq_of_beq_eq_true hc.2
          simp only [DataW.trod, hu] at htr
          split at htr
          · rename_i hlen
            obtain ⟨xs, hxs, _⟩ := Option.map_eq_some_iff.1 htr
            have := fits_elems (w := w) (cs := cs) (l := l) n (fun i hi => by
              obtain ⟨y, hy⟩ := mapM_each hxs (List.mem_range.2 hi)
              rw [← e1] at hy
              exact ih e fuel _ y l hy hl)
            rw [e2, ← hlen] at this
            simpa using this
          · cases htr
        · cases hsh
      · cases hsh

end
end Go.Am

namespace Go.Am
open Go.RowKit Go.ChangeShapes Go.WideShapes Go.ChangeAt

section
variable {H : Type} {enc : TypeId × Value → H} {P : Program}

theorem trodAll_stays {W W' : World} {sp' : Nat → Bool} (hl : laidOutB P = true) : ∀ {ts : List TypeId} {vs : List Value} {ds : List (DataW H)} {ps : List MemPlace},
    (∀ t, t ∈ ts → P.readableRec t = true ∧ t < P.types.size) → DataW.TrodAll enc P W 0 (fun _ => true) true ts vs ds ps → (∀ p ∈ ps, W.sameAt W' p) → (∀ p ∈ ps, sp' p.block = true) →
    DataW.TrodAll enc P W' 0 sp' true ts vs ds ps
  | [], [], [], _, _, h, _, _ => h
  | t :: ts, v :: vs, d :: ds, ps, hr, h, hs, hp => by
    obtain ⟨p, q, h1, h2, rfl⟩ := h
    refine ⟨p, q, WideElems.Trod_stays hl (hr t (by simp)).1 (hr t (by simp)).2 h1 (fun x hx => hs x (by simp [hx])) (fun x hx => hp x (by simp [hx])), ?_, rfl⟩
    exact trodAll_stays hl (fun t ht => hr t (by simp [ht])) h2 (fun x hx => hs x (by simp [hx])) (fun x hx => hp x (by simp [hx]))
  | [], _ :: _, _, _, _, h, _, _ => h.elim
  | [], [], _ :: _, _, _, h, _, _ => h.elim
  | _ :: _, [], _, _, _, h, _, _ => h.elim
  | _ :: _, _ :: _, [], _, _, h, _, _ => h.elim

theorem keptBut_of_below {W W' : World} (hb : Below W.heap.size W W') (may : MemPlace → Prop) : W.keptBut W' may := by
  refine ⟨hb.os, hb.output, fun i hi => ?_⟩
  rw [hb.block i hi]
  split
  · rename_i h1 h2
    rw [h1] at h2
    cases h2
    exact ⟨rfl, rfl, rfl, fun _ _ => rfl⟩
  · rename_i h1 h2
    rw [h1] at h2
    cases h2
    exact Or.inr ⟨rfl, rfl⟩
  · rfl

def readB (P : Program) (ts : List TypeId) : Bool := ts.all fun t => P.readableRec t && Nat.blt t P.types.size

theorem readB_ok {ts : List TypeId} (h : readB P ts = true) : ∀ t, t ∈ ts → P.readableRec t = true ∧ t < P.types.size := by
  intro t ht
  have := List.all_eq_true.1 h t ht
  rw [Bool.and_eq_true] at this
  exact ⟨this.1, by have := this.2; simpa [Nat.blt_eq] using this⟩

/-- The law's end: true, and the input avs it was. -/
theorem post_law {f : Func} {s : ChangeSpec} {apart fresh handsOn again : Bool} {W W' : World} {args : Array Value} {ds gs : List (DataW H)} {before : List MemPlace} {tb : TypeId}
    (hl : laidOutB P = true) (hvars : s.vars = []) (hrt : f.resultTypes = #[tb]) (htb : P.underlying tb = some .bool) (hrd : readB P f.params.toList = true)
    (hW : DataW.Whole enc P f.params.toList s.vars apart W args.toList ds gs before) (hb : Below W.heap.size W W')
    (hs : s.fn H ds = { results := [.lit (.bool true)], args := ds }) :
    s.post enc P f apart fresh handsOn again W args (.bool true) W' := by
  have hW0 := hW
  obtain ⟨p, q, hA, hV, rfl, hz, hn⟩ := hW
  rw [hvars] at hV
  obtain ⟨rfl, rfl⟩ := trodVars_none hV
  have hlt : ∀ x ∈ p, x.block < W.heap.size := fun x hx => hA.lt x hx
  have hst : ∀ sp : Nat → Bool, (∀ x ∈ p, sp x.block = true) → DataW.TrodAll enc P W' 0 sp true f.params.toList args.toList ds p :=
    fun sp hsp => trodAll_stays hl (readB_ok hrd) hA (fun x hx => hb.same (hlt x hx)) hsp
  have hres : ∀ (b : Nat) (sp : Nat → Bool) (hd : Bool), DataW.TrodAll enc P W' b sp hd f.resultTypes.toList ((Value.bool true).resultList f.resultTypes.size) [.lit (.bool true)] [] := by
    intro b sp hd
    rw [hrt]
    exact ⟨[], [], shut_bool htb true, rfl, rfl⟩
  refine ⟨ds, [], p ++ [], [], p, [], hW0, ?_, ?_, ?_, keptBut_of_below hb _, fun _ => ?_⟩
  · rw [List.append_nil, hs]; exact hres _ _ _
  · rw [List.append_nil, hs]; exact hst _ (fun x hx => by simpa using hlt x hx)
  · rw [List.append_nil, hs, hvars]; rfl
  · refine ⟨ok_one hrt rfl (okWide_bool_mk htb true), _, [], ([] ++ p) ++ [], ⟨[] ++ p, [], trodAll_append (hst _ (fun _ _ => rfl)) (hres _ _ _), by rw [hvars]; rfl, rfl, ?_, ?_⟩, ?_⟩
    · intro b off hp
      simp only [List.nil_append, List.append_nil] at hp
      have := hlt _ hp
      rw [hb.frozen this]
      exact hz b off (by simpa using hp)
    · intro ha
      simpa using hn ha
    · intro x hx _
      simpa using hx

end

/-- A contract's call in the row's form. -/
theorem Pure.calls {P : Program} {gl : Globs} {f : FuncId} {args : List AV} (h : Pure P gl f args (.bool true)) {W : World} {vs : Array Value} (hg : GlobB gl noB W)
    (hr : Rels noB W args vs) {Q : Ending → World → Prop} (hQ : ∀ W', Below W.heap.size W W' → Q (.returned (.bool true)) W') : Calls P f vs W Q := by
  refine (h.use (fun _ hf => hf.elim) hg hr).mono ?_
  rintro e W' ⟨v, rfl, hb, hv⟩
  cases hv
  exact hQ W' hb

theorem Rels.nil {w : World} : Rels noB w [] #[] := ⟨rfl, fun j u x h => by simp at h⟩
theorem Rels.cons {w : World} {a : AV} {v : Value} {avs : List AV} {vs : List Value} (h : Rel noB w a v) (hr : Rels noB w avs vs.toArray) : Rels noB w (a :: avs) (v :: vs).toArray := by
  refine ⟨by have := hr.len; simpa using this, fun j u x hu hx => ?_⟩
  cases j with
  | zero => simp at hu hx; subst hu; subst hx; exact h
  | succ j => exact hr.rel j u x (by simpa using hu) (by simpa using hx)

/-! ### Arguments -/

theorem Fits.pick {w : World} {ts : List CT} {cs : List Value} (h : Fits w ts cs) : ∃ g : Nat → AV, ∀ (j : Nat) c, ts[j]? = some c → CellOk c (g j) ∧ ∃ v, cs[j]? = some v ∧ Rel noB w (g j) v := by
  have : Inhabited AV := ⟨.junk⟩
  obtain ⟨g, hg⟩ := Go.Deep.choose_lt (n := ts.length) (p := fun j a => ∀ c, ts[j]? = some c → CellOk c a ∧ ∃ v, cs[j]? = some v ∧ Rel noB w a v) (fun j hj => by
    obtain ⟨v, a, h1, h2, h3, _⟩ := h.cell j ts[j] (by simp [hj])
    refine ⟨a, fun c hc => ?_⟩
    have : c = ts[j] := by simpa [hj] using hc.symm
    subst this
    exact ⟨h2, v, h1, h3⟩)
  exact ⟨g, fun j c hc => hg j (List.getElem?_eq_some_iff.1 hc).1 c hc⟩

theorem Fits.agg {w : World} {ts : List CT} {cs : List Value} (h : Fits w ts cs) {g : Nat → AV} (hg : ∀ (j : Nat) c, ts[j]? = some c → CellOk c (g j) ∧ ∃ v, cs[j]? = some v ∧ Rel noB w (g j) v) {l : List AV}
    (he : EntL [] ((List.range ts.length).map g) l) : Rel noB w (.agg l) (.agg cs.toArray) := by
  obtain ⟨h1, h2⟩ := he.spec
  simp at h1
  refine .agg (by rw [← h1]; simp [h.len]) fun j u v hu hv => ?_
  have hj : j < l.length := (List.getElem?_eq_some_iff.1 hu).1
  have hjt : j < ts.length := by omega
  obtain ⟨_, v', hv', hr⟩ := hg j ts[j] (by simp [hjt])
  have : v' = v := by
    have hv : cs[j]? = some v := by simpa using hv
    rw [hv'] at hv; exact Option.some.inj hv
  subst this
  exact h2 j (g j) u (by simp [hjt]) hu _ _ _ (fun k o hk => by simp at hk) hr

def islN : AV → Nat
  | .isl _ n _ => n
  | _ => 0
def islF : AV → Nat → Nat → AV
  | .isl _ _ f => f
  | _ => fun _ _ => .junk

theorem canonI {os : List (Option Ob)} {k : IntKind} {a : AV} (h : CellOk (.int k) a) : Ent os a (.int k (intOfAV a)) := by cases h; exact Ent.refl _
theorem canonI_wf {k : IntKind} {a : AV} (h : CellOk (.int k) a) : (Lit.int k (intOfAV a)).wf = true := by cases h with | int h => exact h
theorem canonL {os : List (Option Ob)} {k : IntKind} {cs : List CT} {a : AV} (h : CellOk (.sl cs) a) (hk : cs = List.replicate cs.length (.int k)) : Ent os a (.isl cs.length (islN a) (fun i j => .int k (intOfAV (islF a i j)))) := by
  cases h with
  | @sl _ n f hn h =>
    refine Ent.isl fun i j hi hj => ?_
    have hc : cs[j]? = some (.int k) := by rw [hk]; simp [hj]
    have := h i j _ hi hc
    show f i j = .int k (intOfAV (f i j))
    generalize f i j = q at this
    cases this
    rfl
theorem canonL_wf {k : IntKind} {cs : List CT} {a : AV} (h : CellOk (.sl cs) a) (hk : cs = List.replicate cs.length (.int k)) : islN a ≤ maxLen ∧ ∀ i j, i < islN a → j < cs.length → (Lit.int k (intOfAV (islF a i j))).wf = true := by
  cases h with
  | @sl _ n f hn h =>
    refine ⟨hn, fun i j hi hj => ?_⟩
    have hc : cs[j]? = some (.int k) := by rw [hk]; simp [hj]
    exact canonI_wf (h i j _ hi hc)

/-- An argument of a struct's or an array's type. -/
theorem open_agg {H : Type} {enc : TypeId × Value → H} {P : Program} {W : World} {r : Reach} {b0 : Nat} {t : TypeId} {v : Value} {d : DataW H} {ps : List MemPlace} {sp : Nat → Bool} {ts : List CT} (ht : isAggT P t = some true)
    (hsh : shape P 9 t = some ts) (hv : Value.okWide P W r b0 t v) (h : DataW.Trod enc P W 0 sp true t v d ps) : ∃ cs : List Value, v = .agg cs.toArray ∧ Fits W ts cs := by
  obtain ⟨fuel, hf⟩ := h
  have : ∃ cs : Array Value, v = .agg cs := by
    unfold isAggT at ht
    split at ht
    · rename_i fs hu
      obtain ⟨cs, e, _⟩ := okWide_struct hu hv
      exact ⟨cs, e⟩
    · rename_i n e hu
      unfold Value.okWide at hv
      rw [hu] at hv
      obtain ⟨cs, e, _⟩ := hv
      exact ⟨cs, e⟩
    · simp at ht
    · simp at ht
  obtain ⟨cs, rfl⟩ := this
  exact ⟨cs.toList, by simp, open_fits 9 t fuel _ _ ts hf hsh⟩

end Go.Am
