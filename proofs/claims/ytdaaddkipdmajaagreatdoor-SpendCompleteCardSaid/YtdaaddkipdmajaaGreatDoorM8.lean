/- Part of the proof: Glt, FV16, FV17, Clm, Prv, FW1, FN10, SpOpen, SpOpenP, Args, Args3, EnGlob, FQ1, FQ2, FN11, Acc, Cmp, FN12. -/
import Derived.Test.YtdaaddkipdmajaaGreatDoorM6
import Derived.Test.YtdaaddkipdmajaaGreatDoorM7
import Derived.Test.YtdaaddkipdmajaaGreatDoorProg
import Derived.Test.YtdaaddkipdmajaaGreatDoorM2
import Derived.Test.YtdaaddkipdmajaaGreatDoorM4
import Derived.Test.YtdaaddkipdmajaaGreatDoorM3
import Derived.DataShut
import Derived.OpenShut
import Derived.FnData
import Derived.MakeChecks
namespace Go.Sp
open Go Go.Am
def rcdOf (f:Nat→Int):Rcd:=⟨f 0,f 1,f 2,f 3,f 4,f 5,f 6,f 7,f 8,f 9,f 10⟩
end Go.Sp

namespace Go.Proofs.YtdaaddkipdmajaaGreatDoor
open Go Go.Am Go.Sp
set_option maxRecDepth 100000


end Go.Proofs.YtdaaddkipdmajaaGreatDoor

namespace Go.Sp
open Go Go.Am
def oddB (b:Bas) (s:Spend) (i:Nat):Bool := !(scB b (s.lf i 1)&&scB b (s.lf i 2))
end Go.Sp

namespace Go.Proofs.YtdaaddkipdmajaaGreatDoor
open Go Go.Am Go.Sp
set_option maxRecDepth 100000

theorem same27_c (i : Int) (n : Nat) (f : Nat → Nat → Int) (hn : n ≤ 100000) : Pure Tryz.prog gl0 66 [.agg [.int .i64 i, hss n f], .agg [.int .i64 i, hss n f]] (.bool true) := by
  refine pure_sk (own := ow0) Tryz.func66 (by kernel_rfl) mixed (by kernel_rfl)
    (.br (i != i || (↑n : Int) != (↑n : Int)) (.out (AV.bool false) [] (AV.bool true) []) (.loop (Sp.Sub fun (x : Nat) => x ≤ n) (fun (x : Sp.Sub fun (x : Nat) => x ≤ n) => mkSt [2, 3, 5] [AV.own 0 2 0 0 2, AV.own 1 2 0 0 2, Zi (↑(x.1) : Int)] [some ⟨2, 1, true, Rep.lst [[Zi i, hss n f]]⟩, some ⟨2, 1, true, Rep.lst [[Zi i, hss n f]]⟩]) (fun (x : Sp.Sub fun (x : Nat) => x ≤ n) => n - x.1) (⟨0, Nat.zero_le n⟩) ([2, 3, 5]) ([0, 8]) ([AV.own 0 2 0 0 2, AV.own 1 2 0 0 2, Zi 0]) ([some ⟨2, 1, true, Rep.lst [[Zi i, AV.isl 32 n fun (i j : Nat) => Zb (f i j)]]⟩, some ⟨2, 1, true, Rep.lst [[Zi i, AV.isl 32 n fun (i j : Nat) => Zb (f i j)]]⟩]) (fun x2 => (.br (decide ((↑x2.1 : Int) < (↑n : Int))) (.req ((0 : Int) ≤ (↑x2.1 : Int) ∧ (↑x2.1 : Int) < (↑n : Int)) (.req ((0 : Int) ≤ (↑x2.1 : Int) ∧ (↑x2.1 : Int) < (↑n : Int)) (.br (!(f (Int.toNat (↑x2.1 : Int)) 0 == f (Int.toNat (↑x2.1 : Int)) 0 && (f (Int.toNat (↑x2.1 : Int)) 1 == f (Int.toNat (↑x2.1 : Int)) 1 && (f (Int.toNat (↑x2.1 : Int)) 2 == f (Int.toNat (↑x2.1 : Int)) 2 && (f (Int.toNat (↑x2.1 : Int)) 3 == f (Int.toNat (↑x2.1 : Int)) 3 && (f (Int.toNat (↑x2.1 : Int)) 4 == f (Int.toNat (↑x2.1 : Int)) 4 && (f (Int.toNat (↑x2.1 : Int)) 5 == f (Int.toNat (↑x2.1 : Int)) 5 && (f (Int.toNat (↑x2.1 : Int)) 6 == f (Int.toNat (↑x2.1 : Int)) 6 && (f (Int.toNat (↑x2.1 : Int)) 7 == f (Int.toNat (↑x2.1 : Int)) 7 && (f (Int.toNat (↑x2.1 : Int)) 8 == f (Int.toNat (↑x2.1 : Int)) 8 && (f (Int.toNat (↑x2.1 : Int)) 9 == f (Int.toNat (↑x2.1 : Int)) 9 && (f (Int.toNat (↑x2.1 : Int)) 10 == f (Int.toNat (↑x2.1 : Int)) 10 && (f (Int.toNat (↑x2.1 : Int)) 11 == f (Int.toNat (↑x2.1 : Int)) 11 && (f (Int.toNat (↑x2.1 : Int)) 12 == f (Int.toNat (↑x2.1 : Int)) 12 && (f (Int.toNat (↑x2.1 : Int)) 13 == f (Int.toNat (↑x2.1 : Int)) 13 && (f (Int.toNat (↑x2.1 : Int)) 14 == f (Int.toNat (↑x2.1 : Int)) 14 && (f (Int.toNat (↑x2.1 : Int)) 15 == f (Int.toNat (↑x2.1 : Int)) 15 && (f (Int.toNat (↑x2.1 : Int)) 16 == f (Int.toNat (↑x2.1 : Int)) 16 && (f (Int.toNat (↑x2.1 : Int)) 17 == f (Int.toNat (↑x2.1 : Int)) 17 && (f (Int.toNat (↑x2.1 : Int)) 18 == f (Int.toNat (↑x2.1 : Int)) 18 && (f (Int.toNat (↑x2.1 : Int)) 19 == f (Int.toNat (↑x2.1 : Int)) 19 && (f (Int.toNat (↑x2.1 : Int)) 20 == f (Int.toNat (↑x2.1 : Int)) 20 && (f (Int.toNat (↑x2.1 : Int)) 21 == f (Int.toNat (↑x2.1 : Int)) 21 && (f (Int.toNat (↑x2.1 : Int)) 22 == f (Int.toNat (↑x2.1 : Int)) 22 && (f (Int.toNat (↑x2.1 : Int)) 23 == f (Int.toNat (↑x2.1 : Int)) 23 && (f (Int.toNat (↑x2.1 : Int)) 24 == f (Int.toNat (↑x2.1 : Int)) 24 && (f (Int.toNat (↑x2.1 : Int)) 25 == f (Int.toNat (↑x2.1 : Int)) 25 && (f (Int.toNat (↑x2.1 : Int)) 26 == f (Int.toNat (↑x2.1 : Int)) 26 && (f (Int.toNat (↑x2.1 : Int)) 27 == f (Int.toNat (↑x2.1 : Int)) 27 && (f (Int.toNat (↑x2.1 : Int)) 28 == f (Int.toNat (↑x2.1 : Int)) 28 && (f (Int.toNat (↑x2.1 : Int)) 29 == f (Int.toNat (↑x2.1 : Int)) 29 && (f (Int.toNat (↑x2.1 : Int)) 30 == f (Int.toNat (↑x2.1 : Int)) 30 && (f (Int.toNat (↑x2.1 : Int)) 31 == f (Int.toNat (↑x2.1 : Int)) 31 && true))))))))))))))))))))))))))))))))) (.out (AV.bool false) [] (AV.bool true) []) (.again (Again 0 (fun (x : Sp.Sub fun (x : Nat) => x ≤ n) => mkSt [2, 3, 5] [AV.own 0 2 0 0 2, AV.own 1 2 0 0 2, Zi (↑(x.1) : Int)] [some ⟨2, 1, true, Rep.lst [[Zi i, hss n f]]⟩, some ⟨2, 1, true, Rep.lst [[Zi i, hss n f]]⟩]) (fun (x : Sp.Sub fun (x : Nat) => x ≤ n) => n - x.1) x2) ([2, 3, 5]) ([0, 1]) ([AV.own 0 2 0 0 2, AV.own 1 2 0 0 2, Zi (IntKind.wrap IntKind.i64 ((↑x2.1 : Int) + 1))]) ([some ⟨2, 1, true, Rep.lst [[Zi i, AV.isl 32 n fun (i j : Nat) => Zb (f i j)]]⟩, some ⟨2, 1, true, Rep.lst [[Zi i, AV.isl 32 n fun (i j : Nat) => Zb (f i j)]]⟩]))))) (.out (AV.bool true) [] (AV.bool true) [])))))
    (by kernel_rfl) ?_
  refine k_br (fun h0 => ?_) (fun h0 => ?_)
  · have g0 := (cnd_or_t cnd_bne_t cnd_bne_t) h0
    exact k_out (Ent.of_eq (by simp_all))
  · have g0 := (cnd_or_f cnd_bne_f cnd_bne_f) h0
    refine k_loop (fun _ hs => hs.le (by repeat' (first | exact trivial | (first | exact Ent.refl _ | exact inc_ent (by omega) | exact Ent.nil rfl | exact Ent.of_eq (congrArg (AV.osl _ _ _) (by first | omega | (dsimp only; omega))) | exact Ent.of_eq (congrArg (AV.int _) (by first | omega | (dsimp only; omega)))) | refine And.intro ?_ ?_)) (by repeat' (first | exact trivial | (first | exact ObEnt.refl _ | exact ObEnt.junk | exact ObEnt.zero | exact ObEnt.push rfl rfl | exact ObEnt.pushRow rfl | exact ObEnt.len (by omega) | exact ObEnt.row (by repeat' (first | exact trivial | (first | exact Ent.refl _ | exact inc_ent (by omega) | exact Ent.nil rfl | exact Ent.of_eq (congrArg (AV.osl _ _ _) (by first | omega | (dsimp only; omega))) | exact Ent.of_eq (congrArg (AV.int _) (by first | omega | (dsimp only; omega)))) | refine And.intro ?_ ?_))) | refine And.intro ?_ ?_))) (fun x2 => ?_)
    try (have q2 := x2.2; dsimp only at q2)
    refine k_br (fun h3 => ?_) (fun h3 => ?_)
    · have g3 := cnd_dec_t h3
      refine k_req (by omega) ?_
      refine k_req (by omega) ?_
      refine k_br (fun h6 => ?_) (fun h6 => ?_)
      · have g6 := (cnd_not_t (cnd_and_f cnd_beq_f (cnd_and_f cnd_beq_f (cnd_and_f cnd_beq_f (cnd_and_f cnd_beq_f (cnd_and_f cnd_beq_f (cnd_and_f cnd_beq_f (cnd_and_f cnd_beq_f (cnd_and_f cnd_beq_f (cnd_and_f cnd_beq_f (cnd_and_f cnd_beq_f (cnd_and_f cnd_beq_f (cnd_and_f cnd_beq_f (cnd_and_f cnd_beq_f (cnd_and_f cnd_beq_f (cnd_and_f cnd_beq_f (cnd_and_f cnd_beq_f (cnd_and_f cnd_beq_f (cnd_and_f cnd_beq_f (cnd_and_f cnd_beq_f (cnd_and_f cnd_beq_f (cnd_and_f cnd_beq_f (cnd_and_f cnd_beq_f (cnd_and_f cnd_beq_f (cnd_and_f cnd_beq_f (cnd_and_f cnd_beq_f (cnd_and_f cnd_beq_f (cnd_and_f cnd_beq_f (cnd_and_f cnd_beq_f (cnd_and_f cnd_beq_f (cnd_and_f cnd_beq_f (cnd_and_f cnd_beq_f (cnd_and_f cnd_beq_f cnd_id_f))))))))))))))))))))))))))))))))) h6
        try simp only [Int.toNat_natCast] at g6
        exact k_out (Ent.of_eq (by simp_all))
      · have g6 := (cnd_not_f (cnd_and_t cnd_beq_t (cnd_and_t cnd_beq_t (cnd_and_t cnd_beq_t (cnd_and_t cnd_beq_t (cnd_and_t cnd_beq_t (cnd_and_t cnd_beq_t (cnd_and_t cnd_beq_t (cnd_and_t cnd_beq_t (cnd_and_t cnd_beq_t (cnd_and_t cnd_beq_t (cnd_and_t cnd_beq_t (cnd_and_t cnd_beq_t (cnd_and_t cnd_beq_t (cnd_and_t cnd_beq_t (cnd_and_t cnd_beq_t (cnd_and_t cnd_beq_t (cnd_and_t cnd_beq_t (cnd_and_t cnd_beq_t (cnd_and_t cnd_beq_t (cnd_and_t cnd_beq_t (cnd_and_t cnd_beq_t (cnd_and_t cnd_beq_t (cnd_and_t cnd_beq_t (cnd_and_t cnd_beq_t (cnd_and_t cnd_beq_t (cnd_and_t cnd_beq_t (cnd_and_t cnd_beq_t (cnd_and_t cnd_beq_t (cnd_and_t cnd_beq_t (cnd_and_t cnd_beq_t (cnd_and_t cnd_beq_t (cnd_and_t cnd_beq_t cnd_id_t))))))))))))))))))))))))))))))))) h6
        try simp only [Int.toNat_natCast] at g6
        exact k_again (⟨x2.1 + 1, by omega⟩) (fun _ hs => hs.le (by repeat' (first | exact trivial | (first | exact Ent.refl _ | exact inc_ent (by omega) | exact Ent.nil rfl | exact Ent.of_eq (congrArg (AV.osl _ _ _) (by first | omega | (dsimp only; omega))) | exact Ent.of_eq (congrArg (AV.int _) (by first | omega | (dsimp only; omega)))) | refine And.intro ?_ ?_)) (by repeat' (first | exact trivial | (first | exact ObEnt.refl _ | exact ObEnt.junk | exact ObEnt.zero | exact ObEnt.push rfl rfl | exact ObEnt.pushRow rfl | exact ObEnt.len (by omega) | exact ObEnt.row (by repeat' (first | exact trivial | (first | exact Ent.refl _ | exact inc_ent (by omega) | exact Ent.nil rfl | exact Ent.of_eq (congrArg (AV.osl _ _ _) (by first | omega | (dsimp only; omega))) | exact Ent.of_eq (congrArg (AV.int _) (by first | omega | (dsimp only; omega)))) | refine And.intro ?_ ?_))) | refine And.intro ?_ ?_))) (by (dsimp only; omega))
    · have g3 := cnd_dec_f h3
      exact k_out (Ent.of_eq (by rfl))

theorem same32_c (s : Spend) (hl : s.nl ≤ 1000) (hp : s.np ≤ 1000) : Pure Tryz.prog gl0 16 [s.av, s.av] (.bool true) := by
  refine pure_sk (own := ow0) Tryz.func16 (by kernel_rfl) mixed (by kernel_rfl)
    (let y0 : List (Option Ob) := [some ⟨80, 1, true, Rep.lst [Spend.cells s]⟩, some ⟨80, 1, true, Rep.lst [Spend.cells s]⟩]; let y1 : List AV := [Zi s.18, AV.isl 32 s.19 fun (i j : Nat) => Zb (s.20 i j)]; (.sc ((!(s.1 == s.1 && (s.2 == s.2 && (s.3 == s.3 && (s.4 == s.4 && (s.5 == s.5 && (s.6 0 == s.6 0 && (s.6 1 == s.6 1 && (s.6 2 == s.6 2 && (s.6 3 == s.6 3 && (s.6 4 == s.6 4 && (s.6 5 == s.6 5 && (s.6 6 == s.6 6 && (s.6 7 == s.6 7 && (s.6 8 == s.6 8 && (s.6 9 == s.6 9 && (s.6 10 == s.6 10 && (s.6 11 == s.6 11 && (s.6 12 == s.6 12 && (s.6 13 == s.6 13 && (s.6 14 == s.6 14 && (s.6 15 == s.6 15 && (s.6 16 == s.6 16 && (s.6 17 == s.6 17 && (s.6 18 == s.6 18 && (s.6 19 == s.6 19 && (s.6 20 == s.6 20 && (s.6 21 == s.6 21 && (s.6 22 == s.6 22 && (s.6 23 == s.6 23 && (s.6 24 == s.6 24 && (s.6 25 == s.6 25 && (s.6 26 == s.6 26 && (s.6 27 == s.6 27 && (s.6 28 == s.6 28 && (s.6 29 == s.6 29 && (s.6 30 == s.6 30 && (s.6 31 == s.6 31 && true))))))))))))))))))))))))))))))) && (s.7 == s.7 && (s.8 == s.8 && (s.9 == s.9 && (s.10 == s.10 && true))) && true))))))) || !(s.11 == s.11 && (s.12 == s.12 && true)) || !(s.13 0 == s.13 0 && (s.13 1 == s.13 1 && (s.13 2 == s.13 2 && (s.13 3 == s.13 3 && (s.13 4 == s.13 4 && (s.13 5 == s.13 5 && (s.13 6 == s.13 6 && (s.13 7 == s.13 7 && (s.13 8 == s.13 8 && (s.13 9 == s.13 9 && (s.13 10 == s.13 10 && (s.13 11 == s.13 11 && (s.13 12 == s.13 12 && (s.13 13 == s.13 13 && (s.13 14 == s.13 14 && (s.13 15 == s.13 15 && (s.13 16 == s.13 16 && (s.13 17 == s.13 17 && (s.13 18 == s.13 18 && (s.13 19 == s.13 19 && (s.13 20 == s.13 20 && (s.13 21 == s.13 21 && (s.13 22 == s.13 22 && (s.13 23 == s.13 23 && (s.13 24 == s.13 24 && (s.13 25 == s.13 25 && (s.13 26 == s.13 26 && (s.13 27 == s.13 27 && (s.13 28 == s.13 28 && (s.13 29 == s.13 29 && (s.13 30 == s.13 30 && (s.13 31 == s.13 31 && true))))))))))))))))))))))))))))))) && (s.14 == s.14 && (s.15 == s.15 && true))) || (↑s.16 : Int) != (↑s.16 : Int)) == false) 66 ([AV.agg y1, AV.agg y1]) (AV.bool true) (.br (!(s.1 == s.1 && (s.2 == s.2 && (s.3 == s.3 && (s.4 == s.4 && (s.5 == s.5 && (s.6 0 == s.6 0 && (s.6 1 == s.6 1 && (s.6 2 == s.6 2 && (s.6 3 == s.6 3 && (s.6 4 == s.6 4 && (s.6 5 == s.6 5 && (s.6 6 == s.6 6 && (s.6 7 == s.6 7 && (s.6 8 == s.6 8 && (s.6 9 == s.6 9 && (s.6 10 == s.6 10 && (s.6 11 == s.6 11 && (s.6 12 == s.6 12 && (s.6 13 == s.6 13 && (s.6 14 == s.6 14 && (s.6 15 == s.6 15 && (s.6 16 == s.6 16 && (s.6 17 == s.6 17 && (s.6 18 == s.6 18 && (s.6 19 == s.6 19 && (s.6 20 == s.6 20 && (s.6 21 == s.6 21 && (s.6 22 == s.6 22 && (s.6 23 == s.6 23 && (s.6 24 == s.6 24 && (s.6 25 == s.6 25 && (s.6 26 == s.6 26 && (s.6 27 == s.6 27 && (s.6 28 == s.6 28 && (s.6 29 == s.6 29 && (s.6 30 == s.6 30 && (s.6 31 == s.6 31 && true))))))))))))))))))))))))))))))) && (s.7 == s.7 && (s.8 == s.8 && (s.9 == s.9 && (s.10 == s.10 && true))) && true))))))) || !(s.11 == s.11 && (s.12 == s.12 && true)) || !(s.13 0 == s.13 0 && (s.13 1 == s.13 1 && (s.13 2 == s.13 2 && (s.13 3 == s.13 3 && (s.13 4 == s.13 4 && (s.13 5 == s.13 5 && (s.13 6 == s.13 6 && (s.13 7 == s.13 7 && (s.13 8 == s.13 8 && (s.13 9 == s.13 9 && (s.13 10 == s.13 10 && (s.13 11 == s.13 11 && (s.13 12 == s.13 12 && (s.13 13 == s.13 13 && (s.13 14 == s.13 14 && (s.13 15 == s.13 15 && (s.13 16 == s.13 16 && (s.13 17 == s.13 17 && (s.13 18 == s.13 18 && (s.13 19 == s.13 19 && (s.13 20 == s.13 20 && (s.13 21 == s.13 21 && (s.13 22 == s.13 22 && (s.13 23 == s.13 23 && (s.13 24 == s.13 24 && (s.13 25 == s.13 25 && (s.13 26 == s.13 26 && (s.13 27 == s.13 27 && (s.13 28 == s.13 28 && (s.13 29 == s.13 29 && (s.13 30 == s.13 30 && (s.13 31 == s.13 31 && true))))))))))))))))))))))))))))))) && (s.14 == s.14 && (s.15 == s.15 && true))) || (↑s.16 : Int) != (↑s.16 : Int) || false) (.out (AV.bool false) [] (AV.bool true) []) (.loop (Sp.Sub fun (x : Nat) => x ≤ Spend.nl s) (fun (x : Sp.Sub fun (x : Nat) => x ≤ Spend.nl s) => mkSt [2, 3, 5] [AV.own 0 80 0 0 80, AV.own 1 80 0 0 80, Zi (↑(x.1) : Int)] y0) (fun (x : Sp.Sub fun (x : Nat) => x ≤ Spend.nl s) => Spend.nl s - x.1) (⟨0, Nat.zero_le (Spend.nl s)⟩) ([2, 3, 5]) ([0, 8]) ([AV.own 0 80 0 0 80, AV.own 1 80 0 0 80, Zi 0]) (y0) (fun x3 => (.br (decide ((↑x3.1 : Int) < (↑s.16 : Int))) (.req ((0 : Int) ≤ (↑x3.1 : Int) ∧ (↑x3.1 : Int) < (↑s.16 : Int)) (.req ((0 : Int) ≤ (↑x3.1 : Int) ∧ (↑x3.1 : Int) < (↑s.16 : Int)) (.br (!(s.17 (Int.toNat (↑x3.1 : Int)) 0 == s.17 (Int.toNat (↑x3.1 : Int)) 0 && (s.17 (Int.toNat (↑x3.1 : Int)) 1 == s.17 (Int.toNat (↑x3.1 : Int)) 1 && (s.17 (Int.toNat (↑x3.1 : Int)) 2 == s.17 (Int.toNat (↑x3.1 : Int)) 2 && true)))) (.out (AV.bool false) [] (AV.bool true) []) (.again (Again 0 (fun (x : Sp.Sub fun (x : Nat) => x ≤ Spend.nl s) => mkSt [2, 3, 5] [AV.own 0 80 0 0 80, AV.own 1 80 0 0 80, Zi (↑(x.1) : Int)] y0) (fun (x : Sp.Sub fun (x : Nat) => x ≤ Spend.nl s) => Spend.nl s - x.1) x3) ([2, 3, 5]) ([0, 1]) ([AV.own 0 80 0 0 80, AV.own 1 80 0 0 80, Zi (IntKind.wrap IntKind.i64 ((↑x3.1 : Int) + 1))]) (y0))))) (.out (AV.bool true) [] (AV.bool true) [])))))))
    (by kernel_rfl) ?_
  refine k_scg (fun h0 => same27_c (s.18) (s.19) (s.20) (by omega)) ?_
  refine k_br (fun h1 => ?_) (fun h1 => ?_)
  · have g1 := (cnd_or_t (cnd_or_t (cnd_or_t (cnd_or_t (cnd_not_t (cnd_and_f cnd_beq_f (cnd_and_f cnd_beq_f (cnd_and_f cnd_beq_f (cnd_and_f cnd_beq_f (cnd_and_f cnd_beq_f (cnd_and_f (cnd_and_f cnd_beq_f (cnd_and_f cnd_beq_f (cnd_and_f cnd_beq_f (cnd_and_f cnd_beq_f (cnd_and_f cnd_beq_f (cnd_and_f cnd_beq_f (cnd_and_f cnd_beq_f (cnd_and_f cnd_beq_f (cnd_and_f cnd_beq_f (cnd_and_f cnd_beq_f (cnd_and_f cnd_beq_f (cnd_and_f cnd_beq_f (cnd_and_f cnd_beq_f (cnd_and_f cnd_beq_f (cnd_and_f cnd_beq_f (cnd_and_f cnd_beq_f (cnd_and_f cnd_beq_f (cnd_and_f cnd_beq_f (cnd_and_f cnd_beq_f (cnd_and_f cnd_beq_f (cnd_and_f cnd_beq_f (cnd_and_f cnd_beq_f (cnd_and_f cnd_beq_f (cnd_and_f cnd_beq_f (cnd_and_f cnd_beq_f (cnd_and_f cnd_beq_f (cnd_and_f cnd_beq_f (cnd_and_f cnd_beq_f (cnd_and_f cnd_beq_f (cnd_and_f cnd_beq_f (cnd_and_f cnd_beq_f (cnd_and_f cnd_beq_f cnd_id_f)))))))))))))))))))))))))))))))) (cnd_and_f (cnd_and_f cnd_beq_f (cnd_and_f cnd_beq_f (cnd_and_f cnd_beq_f (cnd_and_f cnd_beq_f cnd_id_f)))) cnd_id_f)))))))) (cnd_not_t (cnd_and_f cnd_beq_f (cnd_and_f cnd_beq_f cnd_id_f)))) (cnd_not_t (cnd_and_f (cnd_and_f cnd_beq_f (cnd_and_f cnd_beq_f (cnd_and_f cnd_beq_f (cnd_and_f cnd_beq_f (cnd_and_f cnd_beq_f (cnd_and_f cnd_beq_f (cnd_and_f cnd_beq_f (cnd_and_f cnd_beq_f (cnd_and_f cnd_beq_f (cnd_and_f cnd_beq_f (cnd_and_f cnd_beq_f (cnd_and_f cnd_beq_f (cnd_and_f cnd_beq_f (cnd_and_f cnd_beq_f (cnd_and_f cnd_beq_f (cnd_and_f cnd_beq_f (cnd_and_f cnd_beq_f (cnd_and_f cnd_beq_f (cnd_and_f cnd_beq_f (cnd_and_f cnd_beq_f (cnd_and_f cnd_beq_f (cnd_and_f cnd_beq_f (cnd_and_f cnd_beq_f (cnd_and_f cnd_beq_f (cnd_and_f cnd_beq_f (cnd_and_f cnd_beq_f (cnd_and_f cnd_beq_f (cnd_and_f cnd_beq_f (cnd_and_f cnd_beq_f (cnd_and_f cnd_beq_f (cnd_and_f cnd_beq_f (cnd_and_f cnd_beq_f cnd_id_f)))))))))))))))))))))))))))))))) (cnd_and_f cnd_beq_f (cnd_and_f cnd_beq_f cnd_id_f))))) cnd_bne_t) cnd_id_t) h1
    exact k_out (Ent.of_eq (by simp_all))
  · have g1 := (cnd_or_f (cnd_or_f (cnd_or_f (cnd_or_f (cnd_not_f (cnd_and_t cnd_beq_t (cnd_and_t cnd_beq_t (cnd_and_t cnd_beq_t (cnd_and_t cnd_beq_t (cnd_and_t cnd_beq_t (cnd_and_t (cnd_and_t cnd_beq_t (cnd_and_t cnd_beq_t (cnd_and_t cnd_beq_t (cnd_and_t cnd_beq_t (cnd_and_t cnd_beq_t (cnd_and_t cnd_beq_t (cnd_and_t cnd_beq_t (cnd_and_t cnd_beq_t (cnd_and_t cnd_beq_t (cnd_and_t cnd_beq_t (cnd_and_t cnd_beq_t (cnd_and_t cnd_beq_t (cnd_and_t cnd_beq_t (cnd_and_t cnd_beq_t (cnd_and_t cnd_beq_t (cnd_and_t cnd_beq_t (cnd_and_t cnd_beq_t (cnd_and_t cnd_beq_t (cnd_and_t cnd_beq_t (cnd_and_t cnd_beq_t (cnd_and_t cnd_beq_t (cnd_and_t cnd_beq_t (cnd_and_t cnd_beq_t (cnd_and_t cnd_beq_t (cnd_and_t cnd_beq_t (cnd_and_t cnd_beq_t (cnd_and_t cnd_beq_t (cnd_and_t cnd_beq_t (cnd_and_t cnd_beq_t (cnd_and_t cnd_beq_t (cnd_and_t cnd_beq_t (cnd_and_t cnd_beq_t cnd_id_t)))))))))))))))))))))))))))))))) (cnd_and_t (cnd_and_t cnd_beq_t (cnd_and_t cnd_beq_t (cnd_and_t cnd_beq_t (cnd_and_t cnd_beq_t cnd_id_t)))) cnd_id_t)))))))) (cnd_not_f (cnd_and_t cnd_beq_t (cnd_and_t cnd_beq_t cnd_id_t)))) (cnd_not_f (cnd_and_t (cnd_and_t cnd_beq_t (cnd_and_t cnd_beq_t (cnd_and_t cnd_beq_t (cnd_and_t cnd_beq_t (cnd_and_t cnd_beq_t (cnd_and_t cnd_beq_t (cnd_and_t cnd_beq_t (cnd_and_t cnd_beq_t (cnd_and_t cnd_beq_t (cnd_and_t cnd_beq_t (cnd_and_t cnd_beq_t (cnd_and_t cnd_beq_t (cnd_and_t cnd_beq_t (cnd_and_t cnd_beq_t (cnd_and_t cnd_beq_t (cnd_and_t cnd_beq_t (cnd_and_t cnd_beq_t (cnd_and_t cnd_beq_t (cnd_and_t cnd_beq_t (cnd_and_t cnd_beq_t (cnd_and_t cnd_beq_t (cnd_and_t cnd_beq_t (cnd_and_t cnd_beq_t (cnd_and_t cnd_beq_t (cnd_and_t cnd_beq_t (cnd_and_t cnd_beq_t (cnd_and_t cnd_beq_t (cnd_and_t cnd_beq_t (cnd_and_t cnd_beq_t (cnd_and_t cnd_beq_t (cnd_and_t cnd_beq_t (cnd_and_t cnd_beq_t cnd_id_t)))))))))))))))))))))))))))))))) (cnd_and_t cnd_beq_t (cnd_and_t cnd_beq_t cnd_id_t))))) cnd_bne_f) cnd_id_f) h1
    refine k_loop (fun _ hs => hs.le (by repeat' (first | exact trivial | (first | exact Ent.refl _ | exact inc_ent (by omega) | exact Ent.nil rfl | exact Ent.of_eq (congrArg (AV.osl _ _ _) (by first | omega | (dsimp only; omega))) | exact Ent.of_eq (congrArg (AV.int _) (by first | omega | (dsimp only; omega)))) | refine And.intro ?_ ?_)) (by repeat' (first | exact trivial | (first | exact ObEnt.refl _ | exact ObEnt.junk | exact ObEnt.zero | exact ObEnt.push rfl rfl | exact ObEnt.pushRow rfl | exact ObEnt.len (by omega) | exact ObEnt.row (by repeat' (first | exact trivial | (first | exact Ent.refl _ | exact inc_ent (by omega) | exact Ent.nil rfl | exact Ent.of_eq (congrArg (AV.osl _ _ _) (by first | omega | (dsimp only; omega))) | exact Ent.of_eq (congrArg (AV.int _) (by first | omega | (dsimp only; omega)))) | refine And.intro ?_ ?_))) | refine And.intro ?_ ?_))) (fun x3 => ?_)
    try (have q3 := x3.2; dsimp only at q3)
    refine k_br (fun h4 => ?_) (fun h4 => ?_)
    · have g4 := cnd_dec_t h4
      refine k_req (by omega) ?_
      refine k_req (by omega) ?_
      refine k_br (fun h7 => ?_) (fun h7 => ?_)
      · have g7 := (cnd_not_t (cnd_and_f cnd_beq_f (cnd_and_f cnd_beq_f (cnd_and_f cnd_beq_f cnd_id_f)))) h7
        try simp only [Int.toNat_natCast] at g7
        exact k_out (Ent.of_eq (by simp_all))
      · have g7 := (cnd_not_f (cnd_and_t cnd_beq_t (cnd_and_t cnd_beq_t (cnd_and_t cnd_beq_t cnd_id_t)))) h7
        try simp only [Int.toNat_natCast] at g7
        exact k_again (⟨x3.1 + 1, by omega⟩) (fun _ hs => hs.le (by repeat' (first | exact trivial | (first | exact Ent.refl _ | exact inc_ent (by omega) | exact Ent.nil rfl | exact Ent.of_eq (congrArg (AV.osl _ _ _) (by first | omega | (dsimp only; omega))) | exact Ent.of_eq (congrArg (AV.int _) (by first | omega | (dsimp only; omega)))) | refine And.intro ?_ ?_)) (by repeat' (first | exact trivial | (first | exact ObEnt.refl _ | exact ObEnt.junk | exact ObEnt.zero | exact ObEnt.push rfl rfl | exact ObEnt.pushRow rfl | exact ObEnt.len (by omega) | exact ObEnt.row (by repeat' (first | exact trivial | (first | exact Ent.refl _ | exact inc_ent (by omega) | exact Ent.nil rfl | exact Ent.of_eq (congrArg (AV.osl _ _ _) (by first | omega | (dsimp only; omega))) | exact Ent.of_eq (congrArg (AV.int _) (by first | omega | (dsimp only; omega)))) | refine And.intro ?_ ?_))) | refine And.intro ?_ ?_))) (by (dsimp only; omega))
    · have g4 := cnd_dec_f h4
      exact k_out (Ent.of_eq (by rfl))


theorem amount_z (k0 k1 k2 v d k5 k6 k7 k8 k9 k10 l i : Int) : Pure Tryz.prog gl0 50 [.agg [.int .i64 k0, .int .i64 k1, .int .i64 k2, .int .i64 v, .int .i64 d, .int .i64 k5, .int .i64 k6, .int .i64 k7, .int .i64 k8, .int .i64 k9, .int .i64 k10], .agg [.int .i64 0, .int .i64 0, .int .i64 0, .int .i64 0, .int .i64 0, .int .u8 0, .int .u8 0, .int .u8 0, .int .u8 0, .int .u8 0, .int .u8 0, .int .u8 0, .int .u8 0, .int .u8 0, .int .u8 0, .int .u8 0, .int .u8 0, .int .u8 0, .int .u8 0, .int .u8 0, .int .u8 0, .int .u8 0, .int .u8 0, .int .u8 0, .int .u8 0, .int .u8 0, .int .u8 0, .int .u8 0, .int .u8 0, .int .u8 0, .int .u8 0, .int .u8 0, .int .u8 0, .int .u8 0, .int .u8 0, .int .u8 0, .int .u8 0, .int .i64 0, .int .i64 0, .int .i64 0, .int .i64 0, .int .i64 l, .int .i64 i, .int .u8 0, .int .u8 0, .int .u8 0, .int .u8 0, .int .u8 0, .int .u8 0, .int .u8 0, .int .u8 0, .int .u8 0, .int .u8 0, .int .u8 0, .int .u8 0, .int .u8 0, .int .u8 0, .int .u8 0, .int .u8 0, .int .u8 0, .int .u8 0, .int .u8 0, .int .u8 0, .int .u8 0, .int .u8 0, .int .u8 0, .int .u8 0, .int .u8 0, .int .u8 0, .int .u8 0, .int .u8 0, .int .u8 0, .int .u8 0, .int .u8 0, .int .u8 0, .int .i64 0, .int .i64 0, .nsl, .int .i64 0, .nsl]] (.tup [.int .i64 (amV v d l i), .int .i64 (amE v d l i)]) := by
  refine pure_sk (own := ow0) Tryz.func50 (by kernel_rfl) mixed (by kernel_rfl)
    (let y0 : AV := (AV.tup [Zi (amV v d l i), Zi (amE v d l i)]); (.br (decide (v < 0) || decide (v > 1099511627776) || decide (d < 0) || decide (d > 5)) (.out (AV.tup [Zi 0, Zi 1]) [] y0 []) (.sc (true) 68 ([Zi d, AV.agg [Zi l, Zi i]]) (AV.bool (nodeB d l i)) (.br (!nodeB d l i) (.out (AV.tup [Zi 0, Zi 2]) [] y0 []) (.req ((0 : Int) ≤ l) (.out (AV.tup [Zi (Int.fdiv v ((2 : Int) ^ min (Int.toNat l) 64)), Zi 0]) [] y0 []))))))
    (by kernel_rfl) ?_
  refine k_br (fun h0 => ?_) (fun h0 => ?_)
  · have g0 := (cnd_or_t (cnd_or_t (cnd_or_t cnd_dec_t cnd_dec_t) cnd_dec_t) cnd_dec_t) h0
    exact k_out (Ent.of_eq (by rw [(am_1 (by omega)).1, (am_1 (by omega)).2]))
  · have g0 := (cnd_or_f (cnd_or_f (cnd_or_f cnd_dec_f cnd_dec_f) cnd_dec_f) cnd_dec_f) h0
    refine k_sc (node_c (d) (l) (i)) ?_
    refine k_br (fun h3 => ?_) (fun h3 => ?_)
    · have g3 := (cnd_not_t cnd_id_f) h3
      exact k_out (Ent.of_eq (by rw [(am_2 (by omega) g3).1, (am_2 (by omega) g3).2]))
    · have g3 := (cnd_not_f cnd_id_t) h3
      refine k_req ((span_d g3).2.1) ?_
      exact k_out (Ent.of_eq (by rw [(am_3 (by omega) g3).1, (am_3 (by omega) g3).2]))

theorem awake32_c : Pure Tryz.prog gl0 11 [] (.bool true) := by
  have h1 := span_c 2 1 1
  have h2 := amount_z 0 0 0 8 2 0 0 0 0 0 0 1 1
  refine pure_sk (own := ow0) Tryz.func11 (by kernel_rfl) mixed (by kernel_rfl)
    (.sc (true) 25 ([Zi 2, AV.agg [Zi 1, Zi 1]]) (AV.tup [Zi (spanA (2 : Int) (1 : Int) (1 : Int)), Zi (spanZ (2 : Int) (1 : Int) (1 : Int)), Zi (spanE (2 : Int) (1 : Int) (1 : Int))]) (.sc (true) 50 ([AV.agg [Zi 0, Zi 0, Zi 0, Zi 8, Zi 2, Zi 0, Zi 0, Zi 0, Zi 0, Zi 0, Zi 0], AV.agg [Zi 0, Zi 0, Zi 0, Zi 0, Zi 0, Zb 0, Zb 0, Zb 0, Zb 0, Zb 0, Zb 0, Zb 0, Zb 0, Zb 0, Zb 0, Zb 0, Zb 0, Zb 0, Zb 0, Zb 0, Zb 0, Zb 0, Zb 0, Zb 0, Zb 0, Zb 0, Zb 0, Zb 0, Zb 0, Zb 0, Zb 0, Zb 0, Zb 0, Zb 0, Zb 0, Zb 0, Zb 0, Zi 0, Zi 0, Zi 0, Zi 0, Zi 1, Zi 1, Zb 0, Zb 0, Zb 0, Zb 0, Zb 0, Zb 0, Zb 0, Zb 0, Zb 0, Zb 0, Zb 0, Zb 0, Zb 0, Zb 0, Zb 0, Zb 0, Zb 0, Zb 0, Zb 0, Zb 0, Zb 0, Zb 0, Zb 0, Zb 0, Zb 0, Zb 0, Zb 0, Zb 0, Zb 0, Zb 0, Zb 0, Zb 0, Zi 0, Zi 0, AV.nsl, Zi 0, AV.nsl]]) (AV.tup [Zi (amV (8 : Int) (2 : Int) (1 : Int) (1 : Int)), Zi (amE (8 : Int) (2 : Int) (1 : Int) (1 : Int))]) (.out (AV.bool true) [] (AV.bool true) [])))
    (by kernel_rfl) ?_
  refine k_sc (h1) ?_
  refine k_sc (h2) ?_
  exact k_out (Ent.of_eq rfl)

theorem many32_c (u s : Int) (X : Nat → Nat → Int) (n : Nat) : Pure Tryz.prog gl0 12 [secA u s X n] (.bool (decide ((n : Int) > 40))) := by
  refine pure_sk (own := ow0) Tryz.func12 (by kernel_rfl) mixed (by kernel_rfl)
    (let y0 : AV := (AV.bool (decide ((↑n : Int) > 40))); (.out y0 [] y0 []))
    (by kernel_rfl) ?_
  exact k_out (Ent.refl _)

def greB (s : Spend) : Bool := decide ((s.nl : Int) > 40) && decide ((s.nl : Int) ≤ 330) || decide ((s.nl : Int) > 400) || decide ((s.np : Int) > 20)
theorem gre_1 {s : Spend} (h : greB s = false) : s.nl ≤ 1000 ∧ s.np ≤ 1000000 := by
  simp [greB] at h
  omega
theorem great32_c (s : Spend) : Pure Tryz.prog gl0 13 [s.av] (.bool (greB s)) := by
  refine pure_sk (own := ow0) Tryz.func13 (by kernel_rfl) mixed (by kernel_rfl)
    (.out (AV.bool (decide ((↑s.16 : Int) > 40) && decide ((↑s.16 : Int) ≤ 330) || decide ((↑s.16 : Int) > 400) || decide ((↑s.19 : Int) > 20))) [] (AV.bool (greB s)) [])
    (by kernel_rfl) ?_
  exact k_out (Ent.refl _)

theorem mk_sz {b : Bas} {c : Coin} {u s : Int} {X : Nat → Nat → Int} {n d : Nat} {l i : Int} {x : Cxt} (hd : secB b u s X n = true → d ≤ 5 ∧ n = 2 ^ d) : (mkO b c u s X n d l i x).nl ≤ 1000 ∧ (mkO b c u s X n d l i x).np ≤ 1000 := by
  cases hs : secB b u s X n with
  | false => rw [(mk_1 hs).1]; exact ⟨Nat.zero_le _, Nat.zero_le _⟩
  | true =>
    obtain ⟨h5, _⟩ := hd hs
    cases h2 : (nodeB c.depth l i && ctxB x.time x.number) with
    | false => rw [(mk_2 hs h2).1]; exact ⟨Nat.zero_le _, Nat.zero_le _⟩
    | true =>
      have h2 : nodeB c.depth l i = true ∧ ctxB x.time x.number = true := by simpa using h2
      cases h3 : belB b c u s X d with
      | false => rw [(mk_3 hs h2 h3).1]; exact ⟨Nat.zero_le _, Nat.zero_le _⟩
      | true =>
        rw [(mk_0 hs h2 h3).1]
        obtain ⟨_, _, a3, a4, _, _⟩ := node_t h2.1
        have e := bel_dep h3
        refine ⟨?_, ?_⟩
        · show 2 ^ (d - l.toNat) ≤ 1000
          have := l5 (k := d - l.toNat) (by omega)
          omega
        · show l.toNat ≤ 1000
          omega

theorem sec_d (b : Bas) (u s : Int) (X : Nat → Nat → Int) (n : Nat) : ∃ d, secB b u s X n = true → d ≤ 5 ∧ n = 2 ^ d := by
  cases hs : secB b u s X n with
  | false => exact ⟨0, fun h => by cases h⟩
  | true =>
    obtain ⟨d, h5, hn⟩ := lv_ex (sec_all hs).l
    exact ⟨d, fun _ => ⟨h5, hn⟩⟩

theorem makes_w (b : Bas) (r : Rcd) (c : Coin) (u s : Int) (X : Nat → Nat → Int) (n : Nat) (l i : Int) (x : Cxt) (p : Spend) (S : Spend) (E : Int) (V : Bool)
    (c1 : n ≤ 1000 → Pure Tryz.prog gl0 14 [b.av, c.av, secA u s X n, .agg [.int .i64 l, .int .i64 i], x.av] (mkV S E))
    (c2 : n ≤ 1000 → Pure Tryz.prog gl0 15 [b.av, c.av, secA u s X n, .agg [.int .i64 l, .int .i64 i], x.av] (mkV S E))
    (c3 : greB p = false → Pure Tryz.prog gl0 17 [b.av, r.av, p.av] (.bool V)) (c4 : greB p = false → Pure Tryz.prog gl0 18 [b.av, r.av, p.av] (.bool V))
    (hl : S.nl ≤ 1000) (hp : S.np ≤ 1000) : Pure Tryz.prog gl0 3 [b.av, r.av, c.av, secA u s X n, .agg [.int .i64 l, .int .i64 i], x.av, p.av] (.bool true) := by
  have c5 := same32_c S hl hp
  refine pure_sk (own := ow0) Tryz.func3 (by kernel_rfl) mixed (by kernel_rfl)
    (let y0 : List AV := [Zi u, Zi s, AV.isl 2 n fun (i j : Nat) => Zi (X i j)]; let y1 : List AV := [AV.agg (Bas.cells b), AV.agg (Coin.cells c), AV.agg y0, AV.agg [Zi l, Zi i], AV.agg (u8c x.1 ++ [Zi x.2, Zi x.3])]; let y2 : List AV := [AV.agg (Bas.cells b), AV.agg (Rcd.cells r), AV.agg (Spend.cells p)]; (.sc (true) 11 ([]) (AV.bool true) (.ff (.sc (true) 12 ([AV.agg y0]) (AV.bool (decide ((↑n : Int) > 40))) (.sc (decide ((↑n : Int) > 40) == false) 13 ([AV.agg (Spend.cells p)]) (AV.bool (greB p)) (.br (decide ((↑n : Int) > 40) || greB p) (.out (AV.bool true) [] (AV.bool true) []) (.dc (true) 14 (y1) (mkV S E) (.dc (true) 15 (y1) (mkV S E) (.sc (true) 16 ([AV.agg (Spend.cells S), AV.agg (Spend.cells S)]) (AV.bool true) (.sc ((E == E) == true) 17 (y2) (AV.bool V) (.sc ((E == E) == true) 18 (y2) (AV.bool V) (.out (AV.bool (E == E && V == V)) [] (AV.bool true) []))))))))))))
    (by kernel_rfl) ?_
  refine k_sc (awake32_c) ?_
  refine k_ff ?_
  refine k_sc (many32_c (u) (s) (X) (n)) ?_
  refine k_scg (fun h3 => great32_c (p)) ?_
  refine k_br (fun h4 => ?_) (fun h4 => ?_)
  · have g4 := (cnd_or_t cnd_dec_t cnd_id_t) h4
    exact k_out (Ent.of_eq rfl)
  · have g4 := (cnd_or_f cnd_dec_f cnd_id_f) h4
    refine k_dc (c1 (by omega)) ?_
    refine k_dc (c2 (by omega)) ?_
    refine k_sc (c5) ?_
    refine k_scg (fun h9 => c3 (by exact g4.2)) ?_
    refine k_scg (fun h10 => c4 (by exact g4.2)) ?_
    exact k_out (Ent.of_eq (by simp_all))

theorem spendMakes_c (b : Bas) (r : Rcd) (c : Coin) (u s : Int) (X : Nat → Nat → Int) (n : Nat) (l i : Int) (x : Cxt) (p : Spend) (hw : b.gr.W) (hr : byB c.root 32) (hp : byB x.payee 32) (hs : p.By) (hf : ∀ k, k < p.np → byB (p.pf k) 32) :
    Pure Tryz.prog gl0 3 [b.av, r.av, c.av, secA u s X n, .agg [.int .i64 l, .int .i64 i], x.av, p.av] (.bool true) := by
  obtain ⟨d, hd⟩ := sec_d b u s X n
  have h1 := (mk_sz (c := c) (l := l) (i := i) (x := x) hd).1
  have h2 := (mk_sz (c := c) (l := l) (i := i) (x := x) hd).2
  exact makes_w b r c u s X n l i x p (mkO b c u s X n d l i x) (mkE b c u s X n d l i x) (vfy b r p) (fun hn => smake_c b c u s X n d l i x hw hn hd hr hp) (fun hn => rmake_c b c u s X n d l i x hw hn hd hr hp)
    (fun h => vfy_c b r p hw hs.root hs.payee hf (gre_1 h).2 (gre_1 h).1) (fun h => rvfy_c b r p hw hs.root hs.payee hf (gre_1 h).2 (gre_1 h).1) h1 h2

end Go.Proofs.YtdaaddkipdmajaaGreatDoor

namespace Go.Sp
open Go Go.Am
def u8s (n:Nat):List CT:=List.replicate n (.int .u8)
def spendT:List CT:=[.int .i64,.int .i64,.int .i64,.int .i64,.int .i64]++u8s 32++[.int .i64,.int .i64,.int .i64,.int .i64,.int .i64,.int .i64]++u8s 32++[.int .i64,.int .i64,.sl [.int .i64,.int .i64,.int .i64],.int .i64,.sl (u8s 32)]
def spendOf (g:Nat→AV):Spend :=
  { bank:=intOfAV (g 0),epoch:=intOfAV (g 1),denom:=intOfAV (g 2),depth:=intOfAV (g 3),a:=intOfAV (g 4),root:=fun j=>intOfAV (g (5+j)),
    z:=intOfAV (g 37),sa:=intOfAV (g 38),sb:=intOfAV (g 39),r:=intOfAV (g 40),level:=intOfAV (g 41),index:=intOfAV (g 42),payee:=fun j=>intOfAV (g (43+j)),
    time:=intOfAV (g 75),number:=intOfAV (g 76),nl:=islN (g 77),lf:=fun i j=>intOfAV (islF (g 77) i j),pidx:=intOfAV (g 78),np:=islN (g 79),pf:=fun i j=>intOfAV (islF (g 79) i j) }
def i64s (n:Nat):List CT:=List.replicate n (.int .i64)
def coinT:List CT:=i64s 5++u8s 32++i64s 4
def ctxT:List CT:=u8s 32++i64s 2
def basOf (g:Nat→AV):Bas:=⟨⟨intOfAV (g 0),intOfAV (g 1),intOfAV (g 2)⟩,intOfAV (g 3),intOfAV (g 4),intOfAV (g 5)⟩
def coinOf (g:Nat→AV):Coin:=⟨intOfAV (g 0),intOfAV (g 1),intOfAV (g 2),intOfAV (g 3),intOfAV (g 4),fun j=>intOfAV (g (5+j)),intOfAV (g 37),intOfAV (g 38),intOfAV (g 39),intOfAV (g 40)⟩
def cxtOf (g:Nat→AV):Cxt:=⟨fun j=>intOfAV (g j),intOfAV (g 32),intOfAV (g 33)⟩
theorem cell_i64 {a:AV} (h:CellOk (.int .i64) a) : -9223372036854775808≤intOfAV a∧intOfAV a≤9223372036854775807:=by
 obtain ⟨h1,h2⟩:=(Lit.wf_int_iff _ _).1 h.int_inv
 exact ⟨Int.le_trans (by decide) h1,Int.le_trans h2 (by decide)⟩
theorem cell_u8 {a:AV} (h:CellOk (.int .u8) a):0≤intOfAV a∧intOfAV a<256:=by
 obtain ⟨h1,h2⟩:=(Lit.wf_int_iff _ _).1 h.int_inv
 exact ⟨Int.le_trans (by decide) h1,Int.lt_of_le_of_lt h2 (by decide)⟩
theorem u8_by {ts:List CT} {g:Nat→AV} {k n:Nat} (h:∀ (j:Nat) c,ts[j]? = some c→CellOk c (g j)) (ht:∀ j,j<n→ts[k+j]? = some (.int .u8)):byB (fun j=>intOfAV (g (k+j))) n:=fun i hi=>cell_u8 (h (k+i) _ (ht i hi))
theorem coinT_u8:∀ j,j<32→coinT[5+j]? = some (.int .u8):=fun j hj=>by
 show ((i64s 5++u8s 32)++i64s 4)[5+j]? = _
 rw [List.getElem?_append_left (by simp only [i64s,u8s,List.length_append,List.length_replicate];omega),List.getElem?_append_right (by simp only [i64s,List.length_replicate];omega)]
 unfold u8s
 rw [List.getElem?_replicate,if_pos (by simp only [i64s,List.length_replicate];omega)]
theorem ctxT_u8:∀ j,j<32→ctxT[j]? = some (.int .u8):=fun j hj=>by
 show (u8s 32++i64s 2)[j]? = _
 rw [List.getElem?_append_left (by simp only [u8s,List.length_replicate];omega)]
 unfold u8s
 rw [List.getElem?_replicate,if_pos hj]
theorem coin_by {g:Nat→AV} (h:∀ (j:Nat) c,coinT[j]? = some c→CellOk c (g j)):byB (coinOf g).root 32:=u8_by (k:=5) h coinT_u8
theorem cxt_by {g:Nat→AV} (h:∀ (j:Nat) c,ctxT[j]? = some c→CellOk c (g j)):byB (cxtOf g).payee 32:=fun i hi=>cell_u8 (h i _ (ctxT_u8 i hi))
theorem basOf_w {g:Nat→AV} (h:∀ (j:Nat) c,(i64s 6)[j]? = some c→CellOk c (g j)):(basOf g).gr.W :=
 ⟨(cell_i64 (h 0 _ rfl)).2,(cell_i64 (h 1 _ rfl)).2⟩
def spA:List CT:=[.int .i64,.int .i64,.int .i64,.int .i64,.int .i64]
def spB:List CT:=[.int .i64,.int .i64,.int .i64,.int .i64,.int .i64,.int .i64]
def spC:List CT:=[.int .i64,.int .i64,.sl [.int .i64,.int .i64,.int .i64],.int .i64,.sl (u8s 32)]
theorem spendT_root:∀ j,j<32→spendT[5+j]? = some (.int .u8):=fun j hj=>by
 show (((spA++u8s 32)++spB)++u8s 32++spC)[5+j]? = _
 rw [List.append_assoc,List.append_assoc,List.getElem?_append_left (by simp only [spA,u8s,List.length_append,List.length_replicate,List.length_cons,List.length_nil];omega),
  List.getElem?_append_right (by show 5≤_;omega)]
 unfold u8s
 rw [List.getElem?_replicate,if_pos (by show 5+j - 5<32;omega)]
theorem spendT_payee:∀ j,j<32→spendT[43+j]? = some (.int .u8):=fun j hj=>by
 show (((spA++u8s 32)++spB)++u8s 32++spC)[43+j]? = _
 have e:((spA++u8s 32)++spB).length=43:=by simp [spA,spB,u8s]
 rw [List.append_assoc,List.getElem?_append_right (by omega),e,List.getElem?_append_left (by simp only [u8s,List.length_replicate];omega)]
 unfold u8s
 rw [List.getElem?_replicate,if_pos (by omega)]
theorem spend_by {g:Nat→AV} (h:∀ (j:Nat) c,spendT[j]? = some c→CellOk c (g j)):(spendOf g).By:=⟨u8_by (k:=5) h spendT_root,u8_by (k:=43) h spendT_payee⟩
theorem u8s_i {k:Nat} (h:k<32):(u8s 32)[k]? = some (.int .u8):=by
 unfold u8s
 rw [List.getElem?_replicate,if_pos h]
theorem spend_pf {g:Nat→AV} (h:∀ (j:Nat) c,spendT[j]? = some c→CellOk c (g j)):∀ k,k<(spendOf g).np→byB ((spendOf g).pf k) 32 :=
 fun j hj k hk=>cell_u8 ((h 79 (.sl (u8s 32)) rfl).sl_inv.2 j k (.int .u8) hj (u8s_i hk))
end Go.Sp

namespace Go.Am
open Go
theorem laid_at {P:Program} {w:World}:∀ {laid:List (String×DataW Unit)} {ps:List MemPlace},DataW.LaidVars P w laid ps→∀ {i:Nat} {n:String} {d:DataW Unit},laid[i]? = some (n,d) →
  ∃ g t cs fuel p,P.globalNamed n=some g∧(P.globals[g]?).map (·.type)=some t∧w.var? P n=some cs∧DataW.trod (fun _=>()) P w 0 (fun _=>true) false fuel t cs.toList=some (d,p)
 | [],_,_,i,n,d,h=>by simp at h
 | (n',d')::r,ps,⟨g,t,cs,fuel,p,q,h1,h2,h3,h4,_,_⟩,0,n,d,h=>by
  simp only [List.getElem?_cons_zero,Option.some.injEq,Prod.mk.injEq] at h
  obtain ⟨rfl,rfl⟩:=h
  exact ⟨g,t,cs,fuel,p,h1,h2,h3,h4⟩
 | (n',d')::r,ps,⟨g,t,cs,fuel,p,q,h1,h2,h3,h4,h5,_⟩,i+1,n,d,h=>laid_at h5 (by simpa using h)
def arrOk (P:Program) (g n:Nat) (k:IntKind):Bool :=
 match (P.globals[g]?).map (·.type) with
 | some t =>
  match P.underlying t with
  | some (.array m e) =>
   match P.underlying e with
   | some (.int k')=>Nat.beq m n&&Nat.beq (P.cellsOf e) 1&&decide (k'=k)
   | _=>false
  | _=>false
 | none=>false
theorem arrOk_inv {P:Program} {g n:Nat} {k:IntKind} (h:arrOk P g n k=true):∃ t e,(P.globals[g]?).map (·.type)=some t∧P.underlying t=some (.array n e)∧P.underlying e=some (.int k)∧P.cellsOf e=1:=by
 unfold arrOk at h
 split at h
 ·rename_i t ht
  split at h
  ·rename_i m e hu
   split at h
   ·rename_i k' he
    simp only [Bool.and_eq_true,decide_eq_true_eq,Nat.beq_eq] at h
    obtain ⟨⟨rfl,h2⟩,rfl⟩:=h
    exact ⟨t,e,ht,hu,he,h2⟩
   ·cases h
  ·cases h
 ·cases h
theorem glob_ints {P:Program} {w:World} {β:Book} {laid:List (String×DataW Unit)} (h:laidMetH P laid w) (hp:(laid.all fun x=>x.2.handleName?.isNone)=true) (i:Nat) (name:String) {g n:Nat}
  {k:IntKind} {F:Nat→Int} (hl:laid[i]? = some (name,.agg ((List.range n).map fun j=>.lit (.int k (F j))))) (hg:P.globalNamed name=some g) (ho:arrOk P g n k=true) (hn:0<n) (hb:β.free g):Rel β w (.ipt n fun j=>.int k (F j)) (.pointer (some ⟨g,0,none⟩)):=by
 obtain ⟨t,e,ht,hu,he,hc⟩:=arrOk_inv ho
 rw [MakeChecks.laidMetH_plain _ _ _ hp] at h
 obtain ⟨ps,hv,_,_⟩:=h
 obtain ⟨g',t',cs,fuel,p,h1,h2,h3,h4⟩:=laid_at hv hl
 obtain rfl:=Option.some.inj (hg.symm.trans h1)
 obtain rfl:=Option.some.inj (ht.symm.trans h2)
 obtain ⟨xs,m,rfl,hx,hlen,hxl,hel⟩:=DataW.trod_array hu h4
 simp only [Prod.mk.injEq,DataW.agg.injEq] at hx
 obtain ⟨hx,_⟩:=hx
 have cell:∀ j,j<n→cs[j]? = some (.int k (F j)):=fun j hj=>by
  have hj':=hel j hj
  rw [hc,Nat.mul_one,List.getElem?_eq_getElem (by omega:j<xs.length)] at hj'
  obtain ⟨v,e1,e2,_⟩:=DataW.trod_int he hj'
  have e3:(xs.map (·.1))[j]? = some (.lit (.int k v)):=by rw [List.getElem?_map,List.getElem?_eq_getElem (by omega:j<xs.length),e2];rfl
  rw [← hx] at e3
  simp only [List.getElem?_map,List.getElem?_range hj,Option.map_some,Option.some.injEq,DataW.lit.injEq,Lit.int.injEq,true_and] at e3
  subst e3
  have e4:(List.take 1 (List.drop j cs.toList))[0]? = some (.int k (F j)):=by rw [e1];rfl
  rw [List.getElem?_take_of_lt (by decide),List.getElem?_drop,Nat.add_zero] at e4
  simpa using e4
 refine .ipt (fun j=>.int k (F j)) hn hb (fun j hj => ?_) (fun _ _=>rfl) (fun _ _=>.int) (fun _ _=>.int)
 rw [World.var?_cell hg h3]
 simpa using cell j hj
end Go.Am

namespace Go.Proofs.YtdaaddkipdmajaaGreatDoor
open Go Go.Am Go.Sp
set_option maxRecDepth 100000

theorem cloneL_n : Gives Tryz.prog gl0 188 [] [.nsl] .nsl [] := by
  refine gives_sk (own := ow0) (hand := true) Tryz.func188 (by kernel_rfl) mixed (by kernel_rfl)
    (.tt (.out (AV.nsl) [] (AV.nsl) []))
    (by kernel_rfl) ?_
  refine k_tt ?_
  exact k_out (Ent.refl _)

theorem cloneL_s (f : Nat → Nat → Int) (n : Nat) (hn : n ≤ 1000) : Gives Tryz.prog gl0 188 [] [.nn (lvs n f)] (.osl 0 3 0 n) [some ⟨3, n, true, .fn fun i j => .int .i64 (f i j)⟩] := by
  refine gives_sk (own := ow0) (hand := true) Tryz.func188 (by kernel_rfl) mixed (by kernel_rfl)
    (.ff (.req ((0 + n) * 24 ≤ 140737488355328) (.out (AV.osl 0 3 0 (0 + n)) ([some ⟨3, 0 + n, true, Rep.fn fun (i j : Nat) => Zi (f i j)⟩]) (AV.osl 0 3 0 n) ([some ⟨3, n, true, Rep.fn fun (i j : Nat) => Zi (f i j)⟩]))))
    (by kernel_rfl) ?_
  refine k_ff ?_
  refine k_req (by omega) ?_
  exact k_outg (Ent.of_eq (by simp)) (⟨⟨rfl, by simp, rfl, fun i j _ _ => Ent.of_eq (by simp)⟩, trivial⟩)

theorem cloneH_n : Gives Tryz.prog gl0 189 [] [.nsl] .nsl [] := by
  refine gives_sk (own := ow0) (hand := true) Tryz.func189 (by kernel_rfl) mixed (by kernel_rfl)
    (.tt (.out (AV.nsl) [] (AV.nsl) []))
    (by kernel_rfl) ?_
  refine k_tt ?_
  exact k_out (Ent.refl _)

theorem cloneH_s (f : Nat → Nat → Int) (n : Nat) (hn : n ≤ 1000) : Gives Tryz.prog gl0 189 [] [.nn (hss n f)] (.osl 0 32 0 n) [some ⟨32, n, true, .fn fun i j => .int .u8 (f i j)⟩] := by
  refine gives_sk (own := ow0) (hand := true) Tryz.func189 (by kernel_rfl) mixed (by kernel_rfl)
    (.ff (.req ((0 + n) * 32 ≤ 140737488355328) (.out (AV.osl 0 32 0 (0 + n)) ([some ⟨32, 0 + n, true, Rep.fn fun (i j : Nat) => Zb (f i j)⟩]) (AV.osl 0 32 0 n) ([some ⟨32, n, true, Rep.fn fun (i j : Nat) => Zb (f i j)⟩]))))
    (by kernel_rfl) ?_
  refine k_ff ?_
  refine k_req (by omega) ?_
  exact k_outg (Ent.of_eq (by simp)) (⟨⟨rfl, by simp, rfl, fun i j _ _ => Ent.of_eq (by simp)⟩, trivial⟩)

theorem cloneL_c (f : Nat → Nat → Int) (n : Nat) (hn : n ≤ 1000) : Gives Tryz.prog gl0 188 [] [lvs n f] (.osl 0 3 0 n) [some ⟨3, n, true, .fn fun i j => .int .i64 (f i j)⟩] :=
  Gives.nilSplit [] [] 3 n _ (fun h => by subst h; exact cloneL_n.nil 3 _) (cloneL_s f n hn)

theorem cloneH_c (f : Nat → Nat → Int) (n : Nat) (hn : n ≤ 1000) : Gives Tryz.prog gl0 189 [] [hss n f] (.osl 0 32 0 n) [some ⟨32, n, true, .fn fun i j => .int .u8 (f i j)⟩] :=
  Gives.nilSplit [] [] 32 n _ (fun h => by subst h; exact cloneH_n.nil 32 _) (cloneH_s f n hn)

def owR : FuncId → Option (List Bool) := fun f => bif Nat.beq f 188 || Nat.beq f 189 || Nat.beq f 118 then some [false] else none

theorem copied_c (s : Spend) (hl : s.nl ≤ 1000) (hp : s.np ≤ 1000) : Gives Tryz.prog gl0 118 [] [s.av] (.agg (s.cw (.osl 0 3 0 s.nl) (.osl 1 32 0 s.np))) [some ⟨3, s.nl, true, .fn fun i j => .int .i64 (s.lf i j)⟩, some ⟨32, s.np, true, .fn fun i j => .int .u8 (s.pf i j)⟩] := by
  refine gives_sk (own := owR) (hand := true) Tryz.func118 (by kernel_rfl) mixed (by kernel_rfl)
    (.gc 188 ([]) ([AV.isl 3 s.16 fun (i j : Nat) => Zi (s.17 i j)]) (AV.osl 0 3 0 s.16) ([some ⟨3, s.16, true, Rep.fn fun (i j : Nat) => Zi (s.17 i j)⟩]) (.gc 189 ([]) ([AV.isl 32 s.19 fun (i j : Nat) => Zb (s.20 i j)]) (AV.osl 0 32 0 s.19) ([some ⟨32, s.19, true, Rep.fn fun (i j : Nat) => Zb (s.20 i j)⟩]) (.out (AV.agg (Zi s.1 :: Zi s.2 :: Zi s.3 :: Zi s.4 :: Zi s.5 :: (u8c s.6 ++ Zi s.7 :: Zi s.8 :: Zi s.9 :: Zi s.10 :: Zi s.11 :: Zi s.12 :: (u8c s.13 ++ [Zi s.14, Zi s.15, AV.osl 0 3 0 s.16, Zi s.18, AV.osl 1 32 0 s.19])))) ([some ⟨3, s.16, true, Rep.fn fun (i j : Nat) => Zi (s.17 i j)⟩, some ⟨32, s.19, true, Rep.fn fun (i j : Nat) => Zb (s.20 i j)⟩]) (AV.agg (Spend.cw s (AV.osl 0 3 0 (Spend.nl s)) (AV.osl 1 32 0 (Spend.np s)))) ([some ⟨3, Spend.nl s, true, Rep.fn fun (i j : Nat) => Zi (Spend.lf s i j)⟩, some ⟨32, Spend.np s, true, Rep.fn fun (i j : Nat) => Zb (Spend.pf s i j)⟩]))))
    (by kernel_rfl) ?_
  refine k_gc (cloneL_c (s.17) (s.16) (by assumption)) ?_
  refine k_gc (cloneH_c (s.20) (s.19) (by assumption)) ?_
  exact k_outg (Ent.refl _) (ObsEnt.refl _)

theorem kinds_c : Pure Tryz.prog gl0 90 [] (.int .i64 12) := by
  refine pure_sk (own := ow0) Tryz.func90 (by kernel_rfl) mixed (by kernel_rfl)
    (.out (Zi 12) [] (Zi 12) [])
    (by kernel_rfl) ?_
  exact k_out (Ent.of_eq rfl)


theorem alter_4 (s : Spend) (hl : s.nl ≤ 1000) (hp : s.np ≤ 1000) (ok : okS s = true) : Pure Tryz.prog gl0 89 [s.av, .int .i64 4, .int .i64 1] (.tup [({ s with index := IntKind.wrap .i64 (BitVec.toNat (BitVec.ofInt 64 s.index ^^^ BitVec.ofInt 64 1)) } : Spend).av, .int .i64 0]) := by
  have c1 := rogueformed_c s hl
  have c2 := copied_c s hl hp
  rw [ok] at c1
  refine pure_sk (own := owR) Tryz.func89 (by kernel_rfl) mixed (by kernel_rfl)
    (.sc (true) 114 ([AV.agg (Spend.cells s)]) (AV.bool true) (.ff (.ff (.ff (.gc 118 ([]) ([AV.agg (Spend.cells s)]) (AV.agg (Spend.cw s (AV.osl 0 3 0 (Spend.nl s)) (AV.osl 1 32 0 (Spend.np s)))) ([some ⟨3, Spend.nl s, true, Rep.fn fun (i j : Nat) => Zi (Spend.lf s i j)⟩, some ⟨32, Spend.np s, true, Rep.fn fun (i j : Nat) => Zb (Spend.pf s i j)⟩]) (.ff (.ff (.ff (.ff (.tt (.out (AV.tup [AV.agg (Zi s.1 :: Zi s.2 :: Zi s.3 :: Zi s.4 :: Zi s.5 :: (u8c s.6 ++ Zi s.7 :: Zi s.8 :: Zi s.9 :: Zi s.10 :: Zi s.11 :: Zi (IntKind.wrap IntKind.i64 (↑(BitVec.toNat (BitVec.ofInt 64 s.12 ^^^ BitVec.ofInt 64 (1 : Int))) : Int)) :: (u8c s.13 ++ [Zi s.14, Zi s.15, AV.isl 3 s.16 fun (r k : Nat) => Zi (s.17 (r + 0) k), Zi s.18, AV.isl 32 s.19 fun (r k : Nat) => Zb (s.20 (r + 0) k)]))), Zi 0]) [] (AV.tup [Spend.av { bank := Spend.bank s, epoch := Spend.epoch s, denom := Spend.denom s, depth := Spend.depth s, a := Spend.a s, root := Spend.root s, z := Spend.z s, sa := Spend.sa s, sb := Spend.sb s, r := Spend.r s, level := Spend.level s, index := IntKind.wrap IntKind.i64 (↑(BitVec.toNat (BitVec.ofInt 64 (Spend.index s) ^^^ BitVec.ofInt 64 (1 : Int))) : Int), payee := Spend.payee s, time := Spend.time s, number := Spend.number s, nl := Spend.nl s, lf := Spend.lf s, pidx := Spend.pidx s, np := Spend.np s, pf := Spend.pf s }, Zi 0]) [])))))))))))
    (by kernel_rfl) ?_
  refine k_sc (c1) ?_
  refine k_ff ?_
  refine k_ff ?_
  refine k_ff ?_
  refine k_gc (c2) ?_
  refine k_ff ?_
  refine k_ff ?_
  refine k_ff ?_
  refine k_ff ?_
  refine k_tt ?_
  exact k_out (Ent.of_eq rfl)

theorem alter_10 (s : Spend) (hl : s.nl ≤ 1000) (hp : s.np ≤ 1000) (h1 : s.nl = 1) (ok : okS s = true) : Pure Tryz.prog gl0 89 [s.av, .int .i64 10, .int .i64 1] (.tup [Spend.zero.av, .int .i64 7]) := by
  have c1 := rogueformed_c s hl
  have c2 := copied_c s hl hp
  rw [ok] at c1
  refine pure_sk (own := owR) Tryz.func89 (by kernel_rfl) mixed (by kernel_rfl)
    (let y0 : Nat := (Int.toNat (IntKind.wrap IntKind.i64 ((↑s.16 : Int) - 1)) + 0); let y1 : AV := (AV.tup [Spend.av Spend.zero, Zi 7]); (.sc (true) 114 ([AV.agg (Spend.cells s)]) (AV.bool true) (.ff (.ff (.br ((↑s.16 : Int) == 1 || false) (.out (AV.tup [AV.agg [Zi 0, Zi 0, Zi 0, Zi 0, Zi 0, Zb 0, Zb 0, Zb 0, Zb 0, Zb 0, Zb 0, Zb 0, Zb 0, Zb 0, Zb 0, Zb 0, Zb 0, Zb 0, Zb 0, Zb 0, Zb 0, Zb 0, Zb 0, Zb 0, Zb 0, Zb 0, Zb 0, Zb 0, Zb 0, Zb 0, Zb 0, Zb 0, Zb 0, Zb 0, Zb 0, Zb 0, Zb 0, Zi 0, Zi 0, Zi 0, Zi 0, Zi 0, Zi 0, Zb 0, Zb 0, Zb 0, Zb 0, Zb 0, Zb 0, Zb 0, Zb 0, Zb 0, Zb 0, Zb 0, Zb 0, Zb 0, Zb 0, Zb 0, Zb 0, Zb 0, Zb 0, Zb 0, Zb 0, Zb 0, Zb 0, Zb 0, Zb 0, Zb 0, Zb 0, Zb 0, Zb 0, Zb 0, Zb 0, Zb 0, Zb 0, Zi 0, Zi 0, AV.nsl, Zi 0, AV.nsl], Zi 7]) [] y1 []) (.gc 118 ([]) ([AV.agg (Spend.cells s)]) (AV.agg (Spend.cw s (AV.osl 0 3 0 (Spend.nl s)) (AV.osl 1 32 0 (Spend.np s)))) ([some ⟨3, Spend.nl s, true, Rep.fn fun (i j : Nat) => Zi (Spend.lf s i j)⟩, some ⟨32, Spend.np s, true, Rep.fn fun (i j : Nat) => Zb (Spend.pf s i j)⟩]) (.ff (.ff (.ff (.ff (.ff (.ff (.ff (.ff (.ff (.ff (.tt (.req ((0 : Int) ≤ IntKind.wrap IntKind.i64 ((↑s.16 : Int) - 1) ∧ IntKind.wrap IntKind.i64 ((↑s.16 : Int) - 1) < (↑s.16 : Int)) (.req ((0 : Int) ≤ 0 ∧ (0 : Int) < (↑s.16 : Int)) (.req ((0 : Int) ≤ 0 ∧ (0 : Int) < (↑s.16 : Int)) (.req ((0 : Int) ≤ IntKind.wrap IntKind.i64 ((↑s.16 : Int) - 1) ∧ IntKind.wrap IntKind.i64 ((↑s.16 : Int) - 1) < (↑s.16 : Int)) (.out (AV.tup [AV.agg (Zi s.1 :: Zi s.2 :: Zi s.3 :: Zi s.4 :: Zi s.5 :: (u8c s.6 ++ Zi s.7 :: Zi s.8 :: Zi s.9 :: Zi s.10 :: Zi s.11 :: Zi s.12 :: (u8c s.13 ++ [Zi s.14, Zi s.15, AV.isl 3 s.16 fun (r k : Nat) => Zi (bif Nat.beq (r + 0) y0 && (Nat.ble 0 k && Nat.blt k 3) then intOfAV (atL [Zi (s.17 0 0), Zi (s.17 0 1), Zi (s.17 0 2)] (k - 0)) else bif Nat.beq (r + 0) 0 && (Nat.ble 0 k && Nat.blt k 3) then intOfAV (atL [Zi (s.17 y0 0), Zi (s.17 y0 1), Zi (s.17 y0 2)] (k - 0)) else s.17 (r + 0) k), Zi s.18, AV.isl 32 s.19 fun (r k : Nat) => Zb (s.20 (r + 0) k)]))), Zi 0]) [] y1 []))))))))))))))))))))))
    (by kernel_rfl) ?_
  refine k_sc (c1) ?_
  refine k_ff ?_
  refine k_ff ?_
  refine k_br (fun h3 => ?_) (fun h3 => ?_)
  · have g3 := (cnd_or_t cnd_beq_t cnd_id_t) h3
    exact k_out (Ent.tup ⟨Ent.agg zero_ent, Ent.refl _, trivial⟩)
  · have g3 := (cnd_or_f cnd_beq_f cnd_id_f) h3
    refine k_gc (c2) ?_
    refine k_ff ?_
    refine k_ff ?_
    refine k_ff ?_
    refine k_ff ?_
    refine k_ff ?_
    refine k_ff ?_
    refine k_ff ?_
    refine k_ff ?_
    refine k_ff ?_
    refine k_ff ?_
    refine k_tt ?_
    refine k_req (by omega) ?_
    refine k_req (by omega) ?_
    refine k_req (by omega) ?_
    refine k_req (by omega) ?_
    exact k_out ((by exfalso; omega))

theorem leaf4_ok : okS .leaf4 = true := by decide +kernel

theorem alter4_c : Pure Tryz.prog gl0 89 [.agg (Spend.zero.cw (.isl 3 1 fun r k => atL (List.getD [[.int .i64 4, .int .i64 0, .int .i64 0]] r []) k) .nsl), .int .i64 4, .int .i64 1] (.tup [({ Spend.leaf4 with index := 1 } : Spend).av, .int .i64 0]) :=
  Pure.via (alter_4 .leaf4 (by decide) (by decide) leaf4_ok) ⟨Ent.agg leaf4_ent, Ent.refl _, Ent.refl _, trivial⟩

theorem alter10_c : Pure Tryz.prog gl0 89 [.agg (Spend.zero.cw (.isl 3 1 fun r k => atL (List.getD [[.int .i64 4, .int .i64 0, .int .i64 0]] r []) k) .nsl), .int .i64 10, .int .i64 1] (.tup [Spend.zero.av, .int .i64 7]) :=
  Pure.via (alter_10 .leaf4 (by decide) (by decide) rfl leaf4_ok) ⟨Ent.agg leaf4_ent, Ent.refl _, Ent.refl _, trivial⟩

theorem awake53_c : Pure Tryz.prog gl0 27 [] (.bool true) := by
  refine pure_sk (own := ow0) Tryz.func27 (by kernel_rfl) mixed (by kernel_rfl)
    (let y0 : List AV := [Zi 0, Zi 0, Zi 0, Zi 0, Zi 0, Zb 0, Zb 0, Zb 0, Zb 0, Zb 0, Zb 0, Zb 0, Zb 0, Zb 0, Zb 0, Zb 0, Zb 0, Zb 0, Zb 0, Zb 0, Zb 0, Zb 0, Zb 0, Zb 0, Zb 0, Zb 0, Zb 0, Zb 0, Zb 0, Zb 0, Zb 0, Zb 0, Zb 0, Zb 0, Zb 0, Zb 0, Zb 0, Zi 0, Zi 0, Zi 0, Zi 0, Zi 0, Zi 0, Zb 0, Zb 0, Zb 0, Zb 0, Zb 0, Zb 0, Zb 0, Zb 0, Zb 0, Zb 0, Zb 0, Zb 0, Zb 0, Zb 0, Zb 0, Zb 0, Zb 0, Zb 0, Zb 0, Zb 0, Zb 0, Zb 0, Zb 0, Zb 0, Zb 0, Zb 0, Zb 0, Zb 0, Zb 0, Zb 0, Zb 0, Zb 0, Zi 0, Zi 0, AV.isl 3 1 fun (r k : Nat) => atL (List.getD [[Zi 4, Zi 0, Zi 0]] (r + 0) []) k, Zi 0, AV.nsl]; (.dc (true) 89 ([AV.agg y0, Zi 4, Zi 1]) (AV.tup   [Spend.av       (have __src := Spend.leaf4;       { bank := Spend.bank __src, epoch := Spend.epoch __src, denom := Spend.denom __src, depth := Spend.depth __src, a := Spend.a __src, root := Spend.root __src, z := Spend.z __src, sa := Spend.sa __src, sb := Spend.sb __src, r := Spend.r __src, level := Spend.level __src, index := (1 : Int), payee := Spend.payee __src, time := Spend.time __src, number := Spend.number __src, nl := Spend.nl __src, lf := Spend.lf __src, pidx := Spend.pidx __src, np := Spend.np __src, pf := Spend.pf __src }),     Zi 0]) (.dc (true) 89 ([AV.agg y0, Zi 10, Zi 1]) (AV.tup [Spend.av Spend.zero, Zi 7]) (.sc (true) 90 ([]) (Zi 12) (.out (AV.bool true) [] (AV.bool true) [])))))
    (by kernel_rfl) ?_
  refine k_dc (alter4_c) ?_
  refine k_dc (alter10_c) ?_
  refine k_sc (kinds_c) ?_
  exact k_out (Ent.of_eq rfl)


def dlF (S T : Spend) (i : Nat) : Spend := bif Nat.beq i 0 then S else T
def dlN (E D : Int) : Nat := if E = 0 ∧ D = 0 then 2 else 0
def dlE (E D : Int) : Int := if E = 0 then D else E
abbrev dlV (S T : Spend) (E D : Int) : AV := .tup [.isl 80 (dlN E D) fun i j => atL (dlF S T i).cells j, .int .i64 (dlE E D)]
theorem dl_1 {os : List (Option Ob)} {S T : Spend} {E D : Int} (h : ¬ E = 0) : Ent os (.tup [.nsl, .int .i64 E]) (dlV S T E D) := by
  unfold dlV dlN dlE
  rw [if_neg (fun e => h e.1), if_neg h]
  exact Ent.tup ⟨Ent.nsl, Ent.refl _, trivial⟩
theorem dl_2 {os : List (Option Ob)} {S T : Spend} {E D : Int} (h : E = 0) (h2 : ¬ D = 0) : Ent os (.tup [.nsl, .int .i64 D]) (dlV S T E D) := by
  unfold dlV dlN dlE
  rw [if_neg (fun e => h2 e.2), if_pos h]
  exact Ent.tup ⟨Ent.nsl, Ent.refl _, trivial⟩
theorem dl_0 {os : List (Option Ob)} {S T : Spend} {E D : Int} (h : E = 0) (h2 : D = 0) : Ent os (.tup [.isl 80 2 fun r k => atL (List.getD [S.cells, T.cells] r []) k, .int .i64 0]) (dlV S T E D) := by
  unfold dlV dlN dlE
  rw [if_pos ⟨h, h2⟩, if_pos h, h2]
  exact Ent.tup ⟨Ent.two (g := fun i => (dlF S T i).cells) rfl rfl, Ent.refl _, trivial⟩
theorem dlN_le (E D : Int) : dlN E D ≤ 2 := by unfold dlN; split <;> omega

theorem dsame_c (L : Nat → Spend) (n : Nat) (hn : n ≤ 2) (hl : ∀ i, (L i).nl ≤ 1000 ∧ (L i).np ≤ 1000) : Pure Tryz.prog gl0 30 [.isl 80 n fun i j => atL (L i).cells j, .isl 80 n fun i j => atL (L i).cells j] (.bool true) := by
  have c1 := fun i => same32_c (L i) (hl i).1 (hl i).2
  refine pure_sk (own := ow0) Tryz.func30 (by kernel_rfl) mixed (by kernel_rfl)
    (.br ((↑n : Int) != (↑n : Int)) (.out (AV.bool false) [] (AV.bool true) []) (.loop ({ x : Nat // x ≤ n }) (fun (x : { x : Nat // x ≤ n }) => mkSt [0, 1, 5] [AV.isl 80 n fun (i j : Nat) => atL (Spend.cells (L i)) j, AV.isl 80 n fun (i j : Nat) => atL (Spend.cells (L i)) j, Zi (↑(x.1) : Int)] []) (fun (x : { x : Nat // x ≤ n }) => n - x.1) (⟨0, Nat.zero_le n⟩) ([0, 1, 5]) ([]) ([AV.isl 80 n fun (i j : Nat) => atL (Spend.cells (L i)) j, AV.isl 80 n fun (i j : Nat) => atL (Spend.cells (L i)) j, Zi 0]) ([]) (fun x2 => (.br (decide ((↑x2.1 : Int) < (↑n : Int))) (.req ((0 : Int) ≤ (↑x2.1 : Int) ∧ (↑x2.1 : Int) < (↑n : Int)) (.req ((0 : Int) ≤ (↑x2.1 : Int) ∧ (↑x2.1 : Int) < (↑n : Int)) (.sc (true) 16 ([AV.agg (Spend.cells (L (Int.toNat (↑(x2.1) : Int)))), AV.agg (Spend.cells (L (Int.toNat (↑(x2.1) : Int))))]) (AV.bool true) (.ff (.again (Again 0 (fun (x : { x : Nat // x ≤ n }) => mkSt [0, 1, 5] [AV.isl 80 n fun (i j : Nat) => atL (Spend.cells (L i)) j, AV.isl 80 n fun (i j : Nat) => atL (Spend.cells (L i)) j, Zi (↑(x.1) : Int)] []) (fun (x : { x : Nat // x ≤ n }) => n - x.1) x2) ([0, 1, 5]) ([]) ([AV.isl 80 n fun (i j : Nat) => atL (Spend.cells (L i)) j, AV.isl 80 n fun (i j : Nat) => atL (Spend.cells (L i)) j, Zi (IntKind.wrap IntKind.i64 ((↑x2.1 : Int) + 1))]) ([])))))) (.out (AV.bool true) [] (AV.bool true) [])))))
    (by kernel_rfl) ?_
  refine k_br (fun h0 => ?_) (fun h0 => ?_)
  · have g0 := cnd_bne_t h0
    exact k_out (Ent.of_eq (by simp_all))
  · have g0 := cnd_bne_f h0
    refine k_loop (fun _ hs => hs.le (⟨.refl _, .refl _, .refl _, trivial⟩) (trivial)) (fun x2 => ?_)
    try (have q2 := x2.2; dsimp only at q2)
    refine k_br (fun h3 => ?_) (fun h3 => ?_)
    · have g3 := cnd_dec_t h3
      refine k_req (by omega) ?_
      refine k_req (by omega) ?_
      refine k_sc (c1 (Int.toNat (↑(x2.1) : Int))) ?_
      refine k_ff ?_
      exact k_again (⟨x2.1 + 1, by omega⟩) (fun _ hs => hs.le (⟨.refl _, .refl _, inc_ent (by omega), trivial⟩) (trivial)) (by dsimp only; omega)
    · have g3 := cnd_dec_f h3
      exact k_out (Ent.of_eq rfl)

theorem double_w (b : Bas) (c : Coin) (u s : Int) (X : Nat → Nat → Int) (n : Nat) (l i l' i' : Int) (x y : Cxt) (S T : Spend) (E D : Int)
    (c1 : Pure Tryz.prog gl0 14 [b.av, c.av, secA u s X n, .agg [.int .i64 l, .int .i64 i], x.av] (mkV S E))
    (c2 : Pure Tryz.prog gl0 14 [b.av, c.av, secA u s X n, .agg [.int .i64 l', .int .i64 i'], y.av] (mkV T D)) : Pure Tryz.prog gl0 28 [b.av, c.av, secA u s X n, .agg [.int .i64 l, .int .i64 i], .agg [.int .i64 l', .int .i64 i'], x.av, y.av] (dlV S T E D) := by
  refine pure_sk (own := ow0) Tryz.func28 (by kernel_rfl) mixed (by kernel_rfl)
    (let y0 : List AV := [Zi u, Zi s, AV.isl 2 n fun (i j : Nat) => Zi (X i j)]; (.dc (true) 14 ([AV.agg (Bas.cells b), AV.agg (Coin.cells c), AV.agg y0, AV.agg [Zi l, Zi i], AV.agg (u8c x.1 ++ [Zi x.2, Zi x.3])]) (mkV S E) (.br (E != 0) (.out (AV.tup [AV.nsl, Zi E]) [] (dlV S T E D) []) (.dc (true) 14 ([AV.agg (Bas.cells b), AV.agg (Coin.cells c), AV.agg y0, AV.agg [Zi l', Zi i'], AV.agg (u8c y.1 ++ [Zi y.2, Zi y.3])]) (mkV T D) (.br (D != 0) (.out (AV.tup [AV.nsl, Zi D]) [] (dlV S T E D) []) (.out (AV.tup [AV.isl 80 2 fun (r k : Nat) => atL (List.getD [Spend.cells S, Spend.cells T] (r + 0) []) k, Zi 0]) [] (dlV S T E D) []))))))
    (by kernel_rfl) ?_
  refine k_dc (c1) ?_
  refine k_br (fun h1 => ?_) (fun h1 => ?_)
  · have g1 := cnd_bne_t h1
    exact k_out (dl_1 g1)
  · have g1 := cnd_bne_f h1
    refine k_dc (c2) ?_
    refine k_br (fun h4 => ?_) (fun h4 => ?_)
    · have g4 := cnd_bne_t h4
      exact k_out (dl_2 g1 g4)
    · have g4 := cnd_bne_f h4
      exact k_out (dl_0 g1 g4)

theorem rdouble_w (b : Bas) (c : Coin) (u s : Int) (X : Nat → Nat → Int) (n : Nat) (l i l' i' : Int) (x y : Cxt) (S T : Spend) (E D : Int)
    (c1 : Pure Tryz.prog gl0 15 [b.av, c.av, secA u s X n, .agg [.int .i64 l, .int .i64 i], x.av] (mkV S E))
    (c2 : Pure Tryz.prog gl0 15 [b.av, c.av, secA u s X n, .agg [.int .i64 l', .int .i64 i'], y.av] (mkV T D)) : Pure Tryz.prog gl0 29 [b.av, c.av, secA u s X n, .agg [.int .i64 l, .int .i64 i], .agg [.int .i64 l', .int .i64 i'], x.av, y.av] (dlV S T E D) := by
  refine pure_sk (own := ow0) Tryz.func29 (by kernel_rfl) mixed (by kernel_rfl)
    (let y0 : List AV := [Zi u, Zi s, AV.isl 2 n fun (i j : Nat) => Zi (X i j)]; (.dc (true) 15 ([AV.agg (Bas.cells b), AV.agg (Coin.cells c), AV.agg y0, AV.agg [Zi l, Zi i], AV.agg (u8c x.1 ++ [Zi x.2, Zi x.3])]) (mkV S E) (.br (E != 0) (.out (AV.tup [AV.nsl, Zi E]) [] (dlV S T E D) []) (.dc (true) 15 ([AV.agg (Bas.cells b), AV.agg (Coin.cells c), AV.agg y0, AV.agg [Zi l', Zi i'], AV.agg (u8c y.1 ++ [Zi y.2, Zi y.3])]) (mkV T D) (.br (D != 0) (.out (AV.tup [AV.nsl, Zi D]) [] (dlV S T E D) []) (.out (AV.tup [AV.isl 80 2 fun (r k : Nat) => atL (List.getD [Spend.cells S, Spend.cells T] (r + 0) []) k, Zi 0]) [] (dlV S T E D) []))))))
    (by kernel_rfl) ?_
  refine k_dc (c1) ?_
  refine k_br (fun h1 => ?_) (fun h1 => ?_)
  · have g1 := cnd_bne_t h1
    exact k_out (dl_1 g1)
  · have g1 := cnd_bne_f h1
    refine k_dc (c2) ?_
    refine k_br (fun h4 => ?_) (fun h4 => ?_)
    · have g4 := cnd_bne_t h4
      exact k_out (dl_2 g1 g4)
    · have g4 := cnd_bne_f h4
      exact k_out (dl_0 g1 g4)

theorem doubles_w (b : Bas) (c : Coin) (u s : Int) (X : Nat → Nat → Int) (n : Nat) (l i l' i' : Int) (x y : Cxt) (S T : Spend) (E D : Int)
    (c1 : n ≤ 1000 → Pure Tryz.prog gl0 28 [b.av, c.av, secA u s X n, .agg [.int .i64 l, .int .i64 i], .agg [.int .i64 l', .int .i64 i'], x.av, y.av] (dlV S T E D))
    (c2 : n ≤ 1000 → Pure Tryz.prog gl0 29 [b.av, c.av, secA u s X n, .agg [.int .i64 l, .int .i64 i], .agg [.int .i64 l', .int .i64 i'], x.av, y.av] (dlV S T E D))
    (hl : ∀ i, (dlF S T i).nl ≤ 1000 ∧ (dlF S T i).np ≤ 1000) : Pure Tryz.prog gl0 5 [b.av, c.av, secA u s X n, .agg [.int .i64 l, .int .i64 i], .agg [.int .i64 l', .int .i64 i'], x.av, y.av] (.bool true) := by
  have c3 := dsame_c (dlF S T) (dlN E D) (dlN_le E D) hl
  refine pure_sk (own := ow0) Tryz.func5 (by kernel_rfl) mixed (by kernel_rfl)
    (let y0 : List AV := [Zi u, Zi s, AV.isl 2 n fun (i j : Nat) => Zi (X i j)]; (.sc (true) 27 ([]) (AV.bool true) (.ff (.br (decide ((↑n : Int) > 40)) (.out (AV.bool true) [] (AV.bool true) []) (.dc (true) 28 ([AV.agg (Bas.cells b), AV.agg (Coin.cells c), AV.agg y0, AV.agg [Zi l, Zi i], AV.agg [Zi l', Zi i'], AV.agg (u8c x.1 ++ [Zi x.2, Zi x.3]), AV.agg (u8c y.1 ++ [Zi y.2, Zi y.3])]) (dlV S T E D) (.dc (true) 29 ([AV.agg (Bas.cells b), AV.agg (Coin.cells c), AV.agg y0, AV.agg [Zi l, Zi i], AV.agg [Zi l', Zi i'], AV.agg (u8c x.1 ++ [Zi x.2, Zi x.3]), AV.agg (u8c y.1 ++ [Zi y.2, Zi y.3])]) (dlV S T E D) (.sc ((dlE E D == dlE E D) == true) 30 ([AV.isl 80 (dlN E D) fun (i j : Nat) => atL (Spend.cells (dlF S T i)) j, AV.isl 80 (dlN E D) fun (i j : Nat) => atL (Spend.cells (dlF S T i)) j]) (AV.bool true) (.out (AV.bool (dlE E D == dlE E D || false)) [] (AV.bool true) []))))))))
    (by kernel_rfl) ?_
  refine k_sc (awake53_c) ?_
  refine k_ff ?_
  refine k_br (fun h2 => ?_) (fun h2 => ?_)
  · have g2 := cnd_dec_t h2
    exact k_out (Ent.of_eq rfl)
  · have g2 := cnd_dec_f h2
    refine k_dc (c1 (by omega)) ?_
    refine k_dc (c2 (by omega)) ?_
    refine k_scg (fun h6 => c3) ?_
    exact k_out (Ent.of_eq (by simp_all))

theorem rogueDoubles_c (b : Bas) (c : Coin) (u s : Int) (X : Nat → Nat → Int) (n : Nat) (l i l' i' : Int) (x y : Cxt) (hw : b.gr.W) (hr : byB c.root 32) (hx : byB x.payee 32) (hy : byB y.payee 32) :
    Pure Tryz.prog gl0 5 [b.av, c.av, secA u s X n, .agg [.int .i64 l, .int .i64 i], .agg [.int .i64 l', .int .i64 i'], x.av, y.av] (.bool true) := by
  obtain ⟨d, hd⟩ := sec_d b u s X n
  refine doubles_w b c u s X n l i l' i' x y (mkO b c u s X n d l i x) (mkO b c u s X n d l' i' y) (mkE b c u s X n d l i x) (mkE b c u s X n d l' i' y)
    (fun hn => double_w b c u s X n l i l' i' x y _ _ _ _ (smake_c b c u s X n d l i x hw hn hd hr hx) (smake_c b c u s X n d l' i' y hw hn hd hr hy))
    (fun hn => rdouble_w b c u s X n l i l' i' x y _ _ _ _ (rmake_c b c u s X n d l i x hw hn hd hr hx) (rmake_c b c u s X n d l' i' y hw hn hd hr hy)) (fun j => ?_)
  unfold dlF
  cases Nat.beq j 0
  · exact mk_sz hd
  · exact mk_sz hd

end Go.Proofs.YtdaaddkipdmajaaGreatDoor

namespace Go.Sp
open Go Go.Am
theorem el_q {G:Grp} (h:G.Ok) {x:Int} (hx:elemB G x=true) (a b:Nat) (e:a%G.q.toNat=b%G.q.toNat):x^a%G.p=x^b%G.p:=by
 have hp:=h.p3
 have k:∀ n:Nat,x^n%G.p=x^(n%G.q.toNat)%G.p:=fun n=>by
  have h1:n=G.q.toNat*(n / G.q.toNat)+n%G.q.toNat:=(Nat.div_add_mod n _).symm
  have h2:x^n=(x^G.q.toNat)^(n / G.q.toNat)*x^(n%G.q.toNat):=by rw [← Int.pow_mul,← Int.pow_add,← h1]
  rw [h2,Int.mul_emod,← pow_mod,((elem_iff h).1 hx).2.2,Int.one_pow,Int.emod_eq_of_lt (a:=1) (b:=G.p) (by decide) (by omega),Int.one_mul,Int.emod_emod_of_dvd _ (Int.dvd_refl _)]
 rw [k a,k b,e]
structure ClOk (b:Bas) (s:Spend) (u:Int):Prop where
 v:validB b=true
 ok:okS s=true
 odd:¬firstI (oddB b s) s.nl 0≥0
 u:0≤u∧u<b.gr.q
 n:s.number<1073741824
theorem eqF_sym (f g:Nat→Int):∀ k s,eqF f g k s=eqF g f k s
 | 0,_=>rfl
 | k+1,s=>by unfold eqF;rw [eqF_sym f g k (s+1),Bool.beq_comm]
theorem hEq_sym (f g:Nat→Int):hEq f g=hEq g f:=eqF_sym f g 32 0
theorem pth_tree {h:Nat→Nat→Int} {d L i:Nat} (hL:L≤d):∀ x,x≤L→folF (treF h (d - L) i) (i:Int) (pthF h d L i) x=treF h (d - L+x) (i / 2^x)
 | 0,_=>by rw [Nat.pow_zero,Nat.div_one];rfl
 | x+1,hx=>by
  have ih:=pth_tree (h:=h) (i:=i) hL x (by omega)
  show (bif decide ((i:Int) / 2^x%2=0) then nodeF (folF (treF h (d - L) i) (i:Int) (pthF h d L i) x) (pthF h d L i x) else nodeF (pthF h d L i x) (folF (treF h (d - L) i) (i:Int) (pthF h d L i) x))=nodeF (treF h (d - L+x) (2*(i / 2^(x+1)))) (treF h (d - L+x) (2*(i / 2^(x+1))+1))
  rw [ih,← idx_half]
  have ep:pthF h d L i x=treF h (d - L+x) (sibN (i / 2^x)):=by unfold pthF;rw [show d - (L - x)=d - L+x by omega]
  have ec:((i:Int) / 2^x%2=0)=(i / 2^x%2=0):=by
   have e1:(2^x:Int)=((2^x:Nat):Int):=by simp
   rw [e1,← Int.natCast_ediv]
   generalize i / 2^x=m
   exact propext ⟨fun h=>by omega,fun h=>by omega⟩
  rw [ep]
  simp only [ec]
  generalize i / 2^x=m
  unfold sibN
  by_cases hm:m%2=0
  ·rw [decide_eq_true hm,if_pos hm,show 2*(m / 2)=m by omega];rfl
  ·rw [decide_eq_false hm,if_neg hm,show 2*(m / 2)=m - 1 by omega,show m - 1+1=m by omega];rfl
theorem tre_shift (h:Nat→Nat→Int) (a K:Nat):∀ k m,k≤K→treF (fun j=>h (a*2^K+j)) k m=treF h k (a*2^(K - k)+m)
 | 0,m,_=>rfl
 | k+1,m,hk=>by
  have e:a*2^(K - k)=2*(a*2^(K - (k+1))):=by
   rw [show K - k=(K - (k+1))+1 by omega,Nat.pow_succ,← Nat.mul_assoc,Nat.mul_comm 2]
  show nodeF (treF _ k (2*m)) (treF _ k (2*m+1))=nodeF (treF h k (2*(a*2^(K - (k+1))+m))) (treF h k (2*(a*2^(K - (k+1))+m)+1))
  rw [tre_shift h a K k _ (by omega),tre_shift h a K k _ (by omega),e,Nat.mul_add,Nat.add_assoc]
theorem mulc {a b c d p:Int} (h:a%p=b%p) (k:c%p=d%p):a*c%p=b*d%p:=by rw [Int.mul_emod,h,k,← Int.mul_emod]
theorem powc {a b p:Int} (h:a%p=b%p) (k:Nat):a^k%p=b^k%p:=by rw [← pow_mod,h,pow_mod]
theorem mmod (a p:Int):a%p%p=a%p:=Int.emod_emod_of_dvd _ (Int.dvd_refl _)
theorem cong_q {a b q:Int} (hq:0<q) (ha:0≤a) (hb:0≤b) (h:a%q=b%q):a.toNat%q.toNat=b.toNat%q.toNat:=by
 obtain ⟨a,rfl⟩:=Int.eq_ofNat_of_zero_le ha
 obtain ⟨b,rfl⟩:=Int.eq_ofNat_of_zero_le hb
 obtain ⟨q,rfl⟩:=Int.eq_ofNat_of_zero_le (Int.le_of_lt hq)
 exact_mod_cast h
theorem mk_leaf {b:Bas} {k u s:Int} {X:Nat→Nat→Int} {i:Nat} (hv:validB b=true) (hk:0≤k) (hu:0≤u∧u<b.gr.q) (hs:0≤s) (hp:pairB b X i=true) (hu2:scaB b.gr u=true) :
  leafB b (psJ b u s) k (lfJ b X i) (r1J b k u s (X i 0)) (r2J b k s (X i 1))=true:=by
 have h:=validB_iff.1 hv
 have q3:=h.G.q3
 obtain ⟨⟨x1,x2⟩,⟨y1,y2⟩⟩:=pair_b hp
 have w1:scaB b.gr (r1J b k u s (X i 0))=true:=sca_iff.2 ⟨Int.emod_nonneg _ (by omega),Int.emod_lt_of_pos _ (by omega)⟩
 have w2:scaB b.gr (r2J b k s (X i 1))=true:=sca_iff.2 ⟨Int.emod_nonneg _ (by omega),Int.emod_lt_of_pos _ (by omega)⟩
 have z1:0≤r1J b k u s (X i 0):=(sca_iff.1 w1).1
 have z2:0≤r2J b k s (X i 1):=(sca_iff.1 w2).1
 have m1:0≤k*(u*s):=Int.mul_nonneg hk (Int.mul_nonneg hu.1 hs)
 have m2:0≤k*s:=Int.mul_nonneg hk hs
 have c1:(r1J b k u s (X i 0)).toNat%b.gr.q.toNat=(k*(u*s)+X i 0).toNat%b.gr.q.toNat:=by
  refine cong_q (by omega) z1 (by omega) ?_
  unfold r1J
  rw [mmod,Int.add_emod,mmod,Int.mul_emod k (u*s%b.gr.q),mmod,← Int.mul_emod,← Int.add_emod]
 have c2:(r2J b k s (X i 1)).toNat%b.gr.q.toNat=(k*s+X i 1).toNat%b.gr.q.toNat:=by
  refine cong_q (by omega) z2 (by omega) ?_
  unfold r2J
  rw [mmod,Int.add_emod,mmod,← Int.add_emod]
 have e1:=el_q h.G h.e1 _ _ c1
 have e2:=el_q h.G h.e2 _ _ c2
 have t1:(k*(u*s)+X i 0).toNat=k.toNat*(u.toNat*s.toNat)+(X i 0).toNat:=by
  rw [Int.toNat_add m1 x1,Int.toNat_mul hk (Int.mul_nonneg hu.1 hs),Int.toNat_mul hu.1 hs]
 have t2:(k*s+X i 1).toNat=k.toNat*s.toNat+(X i 1).toNat:=by
  rw [Int.toNat_add m2 y1,Int.toNat_mul hk hs]
 unfold leafB chk2
 rw [lf_el hv hp,w1,w2]
 simp only [Bool.true_and,beq_iff_eq]
 unfold pr2
 rw [e1,e2,t1,t2,mulmod,Int.mul_emod (b.g1^_),mmod,← Int.mul_emod]
 have hM:msgJ b u%b.gr.p=(b.g1^u.toNat*b.g2)%b.gr.p:=by
  unfold msgJ
  rw [(pr2_ok ⟨hu2,sca_one h⟩).1]
  unfold pr2
  rw [mmod,← Int.mul_emod,show (1:Int).toNat=1 from rfl,Int.pow_succ,Int.pow_zero,Int.one_mul]
 have hA:psJ b u s%b.gr.p=(b.g1^u.toNat*b.g2)^s.toNat%b.gr.p:=by
  unfold psJ
  rw [mmod];exact powc hM _
 have hB:lfJ b X i%b.gr.p=(b.g1^(X i 0).toNat*b.g2^(X i 1).toNat)%b.gr.p:=by
  unfold lfJ
  rw [(pr2_ok (pair_all hp)).1]
  unfold pr2
  rw [mmod,← Int.mul_emod]
 rw [mulc ((mmod _ _).trans (powc hA k.toNat)) hB]
 congr 1
 rw [← Int.pow_mul,Int.mul_pow,← Int.pow_mul,Int.pow_add,Int.pow_add,Nat.mul_comm k.toNat (u.toNat*s.toNat),Nat.mul_assoc,Nat.mul_comm k.toNat s.toNat]
 simp only [Int.mul_assoc,Int.mul_left_comm]
theorem mk_vfy {b:Bas} {r:Rcd} {c:Coin} {u s:Int} {X:Nat→Nat→Int} {d:Nat} {l i:Int} {x:Cxt} (hc:coinV b r c=true) (hs:secB b u s X (2^d)=true) (hn:nodeB c.depth l i=true) (hx:ctxB x.time x.number=true) (hB:belB b c u s X d=true) :
  vfy b r (mkS b c u s X d l i x)=true:=by
 have H:=sec_all hs
 have h:=validB_iff.1 H.v
 obtain ⟨h1,h2,h3,h4,h5,h6⟩:=node_t hn
 have hd:=bel_dep hB
 have hL:l.toNat≤d:=by omega
 have hi:=idxZ (l:=l) ⟨h5,h6⟩
 have dp:dpN (mkS b c u s X d l i x)=d - l.toNat:=by
  show (c.depth - l).toNat=_
  omega
 have sp:=span_le hn hd
 unfold belB at hB
 simp only [Bool.and_eq_true,decide_eq_true_eq,beq_iff_eq] at hB
 have hd2:hdB b r (mkS b c u s X d l i x)=true:=by
  unfold hdB
  rw [dp]
  show (coinV b r c&&nodeB c.depth l i&&ctxB x.time x.number&&Nat.beq (2^(d - l.toNat)) (2^(d - l.toNat))&&i==i)=true
  rw [hc,hn,hx];simp
 have kq:=mkc_q (b:=b) (c:=c) (l:=l) (i:=i) (x:=x) h.G
 rw [vfy_r hd2 (by show ((l.toNat:Nat):Int)=l;omega) fun j hj=>?_]
 ·show hEq (folF (treF (fun j=>leafF (lfJ b X (i.toNat*2^(d - l.toNat)+j))) (dpN (mkS b c u s X d l i x)) 0) i (pthF (mkH b X) d l.toNat i.toNat) l.toNat) c.root=true
  rw [dp]
  have e1:=tre_shift (mkH b X) i.toNat (d - l.toNat) (d - l.toNat) 0 (Nat.le_refl _)
  rw [Nat.sub_self,Nat.pow_zero,Nat.mul_one,Nat.add_zero] at e1
  have e2:=pth_tree (h:=mkH b X) (i:=i.toNat) hL l.toNat (Nat.le_refl _)
  rw [show (i.toNat:Int)=i by omega,Nat.div_eq_of_lt hi,show d - l.toNat+l.toNat=d by omega] at e2
  rw [show (treF (fun j=>leafF (lfJ b X (i.toNat*2^(d - l.toNat)+j))) (d - l.toNat) 0)=treF (mkH b X) (d - l.toNat) i.toNat from e1,e2,hEq_sym]
  exact hB.2.2
 ·have hj:j<2^(d - l.toNat):=hj
  refine okL_n ?_ fun j' hj'=>?_
  ·show leafB b c.a (chalN b.gr.q c l i x) (lfJ b X (i.toNat*2^(d - l.toNat)+j)) (r1J b (chalN b.gr.q c l i x) u s (X (i.toNat*2^(d - l.toNat)+j) 0)) (r2J b (chalN b.gr.q c l i x) s (X (i.toNat*2^(d - l.toNat)+j) 1))=true
   rw [hB.2.1]
   exact mk_leaf H.v kq.1 (nz_rng H.hu) (nz_rng H.hs).1 (H.p _ (by omega)) (nz_sca H.hu)
  ·have k:=H.d (i.toNat*2^(d - l.toNat)+j) (by omega)
   unfold seenB at k
   have k2:=List.any_eq_false.1 k (i.toNat*2^(d - l.toNat)+j') (List.mem_range.2 (by omega))
   intro e
   exact k2 (decide_eq_true e.symm)
end Go.Sp

namespace Go.Proofs.YtdaaddkipdmajaaGreatDoor
open Go Go.Am Go.Sp
set_option maxRecDepth 100000

theorem complete_f (b : Bas) (r : Rcd) (c : Coin) (u s : Int) (X : Nat → Nat → Int) (n : Nat) (l i : Int) (x : Cxt) (hw : b.gr.W) (hr : byB c.root 32) (hf : n > 40 ∨ coinV b r c = false ∨ secB b u s X n = false) :
    Pure Tryz.prog gl0 4 [b.av, r.av, c.av, secA u s X n, .agg [.int .i64 l, .int .i64 i], x.av] (.bool true) := by
  have c1 := r11valid_c b hw
  have c2 := rcval_c b r c hw hr
  have c3 := fun h => rsec31_c b u s X n hw h
  refine pure_sk (own := ow0) Tryz.func4 (by kernel_rfl) mixed (by kernel_rfl)
    (let y0 : List AV := [Zi u, Zi s, AV.isl 2 n fun (i j : Nat) => Zi (X i j)]; (.sc (true) 11 ([]) (AV.bool true) (.ff (.sc (true) 12 ([AV.agg y0]) (AV.bool (decide ((↑n : Int) > 40))) (.sc (decide ((↑n : Int) > 40) == false) 19 ([AV.agg (Bas.cells b)]) (AV.bool (validB b)) (.sc ((decide ((↑n : Int) > 40) || !validB b) == false) 20 ([AV.agg (Bas.cells b), AV.agg (Rcd.cells r), AV.agg (Coin.cells c)]) (AV.bool (coinV b r c)) (.sc ((decide ((↑n : Int) > 40) || !validB b || !coinV b r c) == false) 21 ([AV.agg (Bas.cells b), AV.agg y0]) (AV.bool (secB b u s X n)) (.br (decide ((↑n : Int) > 40) || !validB b || !coinV b r c || !secB b u s X n) (.out (AV.bool true) [] (AV.bool true) []) .no))))))))
    (by kernel_rfl) ?_
  refine k_sc (awake32_c) ?_
  refine k_ff ?_
  refine k_sc (many32_c (u) (s) (X) (n)) ?_
  refine k_scg (fun h3 => c1) ?_
  refine k_scg (fun h4 => c2) ?_
  refine k_scg (fun h5 => c3 ((by simp at h5; omega))) ?_
  refine k_br (fun h6 => ?_) (fun h6 => ?_)
  · have g6 := (cnd_or_t (cnd_or_t (cnd_or_t cnd_dec_t (cnd_not_t cnd_id_f)) (cnd_not_t cnd_id_f)) (cnd_not_t cnd_id_f)) h6
    exact k_out (Ent.of_eq rfl)
  · have g6 := (cnd_or_f (cnd_or_f (cnd_or_f cnd_dec_f (cnd_not_f cnd_id_t)) (cnd_not_f cnd_id_t)) (cnd_not_f cnd_id_t)) h6
    exact (show False from ((by exfalso; rcases hf with h | h | h <;> simp_all <;> omega)))

theorem complete_w (b : Bas) (r : Rcd) (c : Coin) (u s : Int) (X : Nat → Nat → Int) (M : Nat) (l i : Int) (x : Cxt) (S : Spend) (E : Int) (A N : Nat) (BEL : Bool) (hw : b.gr.W) (hr : byB c.root 32) (hM : M ≤ 32) (hAN : A + N ≤ M) (H : SecOk b u s X M) (hc : coinV b r c = true)
    (c4 : Pure Tryz.prog gl0 14 [b.av, c.av, secA u s X M, .agg [.int .i64 l, .int .i64 i], x.av] (mkV S E))
    (c5 : nodeB c.depth l i = true → Pure Tryz.prog gl0 24 [b.av, c.av, secA u s X M] (.bool BEL))
    (c6 : nodeB c.depth l i = true → BEL = true → Pure Tryz.prog gl0 25 [.int .i64 c.depth, .agg [.int .i64 l, .int .i64 i]] (.tup [.int .i64 A, .int .i64 (A + N : Nat), .int .i64 0]))
    (c7 : nodeB c.depth l i = true ∧ ctxB x.time x.number = true → BEL = true → Pure Tryz.prog gl0 17 [b.av, r.av, S.av] (.bool true))
    (u2 : nodeB c.depth l i = false ∨ ctxB x.time x.number = false → E = 2) (u3 : nodeB c.depth l i = true ∧ ctxB x.time x.number = true → ¬ E = 0 → E = 18 ∧ BEL = false)
    (u0 : nodeB c.depth l i = true ∧ ctxB x.time x.number = true → E = 0 → BEL = true ∧ S.nl = N ∧ ∀ j, j < N → S.lf j 0 = lfJ b X (A + j)) :
    Pure Tryz.prog gl0 4 [b.av, r.av, c.av, secA u s X M, .agg [.int .i64 l, .int .i64 i], x.av] (.bool true) := by
  have h := validB_iff.1 H.v
  have hn : M ≤ 1000 := by omega
  have c1 := r11valid_c b hw
  rw [H.v] at c1
  have c2 := rcval_c b r c hw hr
  rw [hc] at c2
  have c3 := rsec31_c b u s X M hw hn
  rw [show secB b u s X M = true from sec_of H] at c3
  have c8 := rlvs_c b X M h hn H.p
  refine pure_sk (own := ow0) Tryz.func4 (by kernel_rfl) mixed (by kernel_rfl)
    (let y0 : List AV := [Zi u, Zi s, AV.isl 2 M fun (i j : Nat) => Zi (X i j)]; (.sc (true) 11 ([]) (AV.bool true) (.ff (.sc (true) 12 ([AV.agg y0]) (AV.bool (decide ((↑M : Int) > 40))) (.sc (decide ((↑M : Int) > 40) == false) 19 ([AV.agg (Bas.cells b)]) (AV.bool true) (.sc ((decide ((↑M : Int) > 40) || false) == false) 20 ([AV.agg (Bas.cells b), AV.agg (Rcd.cells r), AV.agg (Coin.cells c)]) (AV.bool true) (.sc ((decide ((↑M : Int) > 40) || false || false) == false) 21 ([AV.agg (Bas.cells b), AV.agg y0]) (AV.bool true) (.br (decide ((↑M : Int) > 40) || false || false || false) (.out (AV.bool true) [] (AV.bool true) []) (.dc (true) 14 ([AV.agg (Bas.cells b), AV.agg (Coin.cells c), AV.agg y0, AV.agg [Zi l, Zi i], AV.agg (u8c x.1 ++ [Zi x.2, Zi x.3])]) (mkV S E) (.sc (true) 22 ([Zi c.4, AV.agg [Zi l, Zi i]]) (AV.bool (nodeB (Coin.depth c) l i)) (.sc ((!nodeB c.4 l i) == false) 23 ([AV.agg (u8c x.1 ++ [Zi x.2, Zi x.3])]) (AV.bool (ctxB (Cxt.time x) (Cxt.number x))) (.br (!nodeB c.4 l i || !ctxB x.2 x.3) (.out (AV.bool (E == 2)) [] (AV.bool true) []) (.br (E != 0) (.sc ((E == 18) == true) 24 ([AV.agg (Bas.cells b), AV.agg (Coin.cells c), AV.agg y0]) (AV.bool BEL) (.out (AV.bool (E == 18 && !BEL)) [] (AV.bool true) [])) (.sc (true) 25 ([Zi c.4, AV.agg [Zi l, Zi i]]) (AV.tup [Zi (↑A : Int), Zi (↑(A + N) : Int), Zi 0]) (.dc (true) 26 ([AV.agg (Bas.cells b), AV.isl 2 M fun (i j : Nat) => Zi (X i j)]) (AV.isl 1 M fun (i x : Nat) => Zi (lfJ b X i)) (.sc ((decide ((↑A : Int) < 0) || decide ((↑(A + N) : Int) > (↑M : Int)) || (↑S.16 : Int) != IntKind.wrap IntKind.i64 ((↑(A + N) : Int) - (↑A : Int))) == false) 17 ([AV.agg (Bas.cells b), AV.agg (Rcd.cells r), AV.agg (Spend.cells S)]) (AV.bool true) (.br (decide ((↑A : Int) < 0) || decide ((↑(A + N) : Int) > (↑M : Int)) || (↑S.16 : Int) != IntKind.wrap IntKind.i64 ((↑(A + N) : Int) - (↑A : Int)) || false) (.out (AV.bool false) [] (AV.bool true) []) (.loop ({ x : Nat // x ≤ Spend.nl S }) (fun (x : { x : Nat // x ≤ Spend.nl S }) => mkSt [15, 18, 116, 117, 118] [Zi (↑A : Int), AV.isl 1 M fun (i x : Nat) => Zi (lfJ b X i), AV.isl 3 S.16 fun (i j : Nat) => Zi (S.17 i j), Zi (↑S.16 : Int), Zi (↑(x.1) : Int)] []) (fun (x : { x : Nat // x ≤ Spend.nl S }) => Spend.nl S - x.1) (⟨0, Nat.zero_le (Spend.nl S)⟩) ([15, 18, 116, 117, 118]) ([]) ([Zi (↑A : Int), AV.isl 1 M fun (i x : Nat) => Zi (lfJ b X i), AV.isl 3 S.16 fun (i j : Nat) => Zi (S.17 i j), Zi (↑S.16 : Int), Zi 0]) ([]) (fun x21 => (.br (decide ((↑x21.1 : Int) < (↑S.16 : Int))) (.req ((0 : Int) ≤ (↑x21.1 : Int) ∧ (↑x21.1 : Int) < (↑S.16 : Int)) (.req ((0 : Int) ≤ IntKind.wrap IntKind.i64 ((↑A : Int) + (↑x21.1 : Int)) ∧ IntKind.wrap IntKind.i64 ((↑A : Int) + (↑x21.1 : Int)) < (↑M : Int)) (.br (S.17 (Int.toNat (↑x21.1 : Int)) 0 != lfJ b X (Int.toNat (IntKind.wrap IntKind.i64 ((↑A : Int) + (↑x21.1 : Int))))) (.out (AV.bool false) [] (AV.bool true) []) (.again (Again 0 (fun (x : { x : Nat // x ≤ Spend.nl S }) => mkSt [15, 18, 116, 117, 118] [Zi (↑A : Int), AV.isl 1 M fun (i x : Nat) => Zi (lfJ b X i), AV.isl 3 S.16 fun (i j : Nat) => Zi (S.17 i j), Zi (↑S.16 : Int), Zi (↑(x.1) : Int)] []) (fun (x : { x : Nat // x ≤ Spend.nl S }) => Spend.nl S - x.1) x21) ([15, 18, 116, 117, 118]) ([]) ([Zi (↑A : Int), AV.isl 1 M fun (i x : Nat) => Zi (lfJ b X i), AV.isl 3 S.16 fun (i j : Nat) => Zi (S.17 i j), Zi (↑S.16 : Int), Zi (IntKind.wrap IntKind.i64 ((↑x21.1 : Int) + 1))]) ([]))))) (.out (AV.bool true) [] (AV.bool true) [])))))))))))))))))))))
    (by kernel_rfl) ?_
  refine k_sc (awake32_c) ?_
  refine k_ff ?_
  refine k_sc (many32_c (u) (s) (X) (M)) ?_
  refine k_scg (fun h3 => c1) ?_
  refine k_scg (fun h4 => c2) ?_
  refine k_scg (fun h5 => c3) ?_
  refine k_br (fun h6 => ?_) (fun h6 => ?_)
  · have g6 := (cnd_or_t (cnd_or_t (cnd_or_t cnd_dec_t cnd_id_t) cnd_id_t) cnd_id_t) h6
    exact k_out (Ent.of_eq rfl)
  · have g6 := (cnd_or_f (cnd_or_f (cnd_or_f cnd_dec_f cnd_id_f) cnd_id_f) cnd_id_f) h6
    refine k_dc (c4) ?_
    refine k_sc ((rnode_c (Coin.depth c) l i)) ?_
    refine k_scg (fun h10 => (rctx_c x)) ?_
    refine k_br (fun h11 => ?_) (fun h11 => ?_)
    · have g11 := (cnd_or_t (cnd_not_t cnd_id_f) (cnd_not_t cnd_id_f)) h11
      exact k_out (Ent.of_eq (by rw [u2 g11]; rfl))
    · have g11 := (cnd_or_f (cnd_not_f cnd_id_t) (cnd_not_f cnd_id_t)) h11
      refine k_br (fun h13 => ?_) (fun h13 => ?_)
      · have g13 := cnd_bne_t h13
        refine k_scg (fun h14 => c5 (g11.1)) ?_
        exact k_out (Ent.of_eq (by obtain ⟨e1, e2⟩ := u3 g11 g13; rw [e1, e2]; rfl))
      · have g13 := cnd_bne_f h13
        refine k_sc (c6 (g11.1) ((u0 g11 g13).1)) ?_
        refine k_dc (c8) ?_
        refine k_scg (fun h18 => c7 (g11) ((u0 g11 g13).1)) ?_
        refine k_br (fun h19 => ?_) (fun h19 => ?_)
        · have g19 := (cnd_or_t (cnd_or_t (cnd_or_t cnd_dec_t cnd_dec_t) cnd_bne_t) cnd_id_t) h19
          exact k_out ((by exfalso; have k := (u0 g11 g13).2.1; rw [wI (by omega) (by omega)] at g19; rcases g19 with g | g; (· omega); (· cases g)))
        · have g19 := (cnd_or_f (cnd_or_f (cnd_or_f cnd_dec_f cnd_dec_f) cnd_bne_f) cnd_id_f) h19
          refine k_loop (fun _ hs => hs.le (⟨.refl _, .refl _, .refl _, .refl _, .refl _, trivial⟩) (trivial)) (fun x21 => ?_)
          try (have q21 := x21.2; dsimp only at q21)
          have hh := (u0 g11 g13).2
          refine k_br (fun h22 => ?_) (fun h22 => ?_)
          · have g22 := cnd_dec_t h22
            refine k_req (by omega) ?_
            refine k_req (by (rw [wI (by omega) (by omega)]; omega)) ?_
            refine k_br (fun h25 => ?_) (fun h25 => ?_)
            · have g25 := cnd_bne_t h25
              try simp only [Int.toNat_natCast] at g25
              exact k_out ((by exfalso; have e := hh.2 x21.1 (by omega); apply g25; rw [e]; congr 1; rw [wI (by omega) (by omega)]; omega))
            · have g25 := cnd_bne_f h25
              try simp only [Int.toNat_natCast] at g25
              exact k_again (⟨x21.1 + 1, by omega⟩) (fun _ hs => hs.le (⟨.refl _, .refl _, .refl _, .refl _, inc_ent (by omega), trivial⟩) (trivial)) (by dsimp only; omega)
          · have g22 := cnd_dec_f h22
            exact k_out (Ent.of_eq rfl)

theorem spendComplete_c (b : Bas) (r : Rcd) (c : Coin) (u s : Int) (X : Nat → Nat → Int) (n : Nat) (l i : Int) (x : Cxt) (hw : b.gr.W) (hr : byB c.root 32) (hp : byB x.payee 32) :
    Pure Tryz.prog gl0 4 [b.av, r.av, c.av, secA u s X n, .agg [.int .i64 l, .int .i64 i], x.av] (.bool true) := by
  by_cases hf : n > 40 ∨ coinV b r c = false ∨ secB b u s X n = false
  · exact complete_f b r c u s X n l i x hw hr hf
  · have hc : coinV b r c = true := by
      cases e : coinV b r c
      · exact absurd (.inr (.inl e)) hf
      · rfl
    have hs : secB b u s X n = true := by
      cases e : secB b u s X n
      · exact absurd (.inr (.inr e)) hf
      · rfl
    obtain ⟨d, h5, rfl⟩ := lv_ex (sec_all hs).l
    have H := sec_all hs
    obtain ⟨A, N, hAN, hg⟩ := mk_AN b c u s X d l i
    have hn : 2 ^ d ≤ 1000 := by have := l5 h5; omega
    refine complete_w b r c u s X (2 ^ d) l i x (mkO b c u s X (2 ^ d) d l i x) (mkE b c u s X (2 ^ d) d l i x) A N (belB b c u s X d) hw hr (l5 h5) hAN H hc (smake_c b c u s X (2 ^ d) d l i x hw hn (fun _ => ⟨h5, rfl⟩) hr hp) (fun e => ?_) (fun e hB => ?_) (fun e hB => ?_) (fun e => ?_) (fun e h0 => ?_) (fun e h0 => ?_)
    · obtain ⟨h1, h2, _⟩ := node_t e
      exact belongs_c b c u s X d h5 H ⟨h1, h2⟩
    · obtain ⟨rfl, rfl⟩ := hg e hB
      exact spanN_c c l i d e (bel_dep hB)
    · have z := mk_sz (c := c) (l := l) (i := i) (x := x) (d := d) (fun _ => ⟨h5, rfl⟩ : secB b u s X (2 ^ d) = true → d ≤ 5 ∧ 2 ^ d = 2 ^ d)
      rw [(mk_0 hs e hB).1] at z ⊢
      obtain ⟨_, _, h3, h4, h5', h6⟩ := node_t e.1
      have hd := bel_dep hB
      have v := vfy_c b r (mkS b c u s X d l i x) hw hr hp (fun k hk => pth_by (fun j _ => leafF_by _) (by omega) hk (idxZ ⟨h5', h6⟩)) (by omega) z.1
      rw [mk_vfy hc hs e.1 e.2 hB] at v
      exact v
    · exact (mk_2 (d := d) hs (by rcases e with e | e <;> simp [e])).2
    · cases hB : belB b c u s X d with
      | false => exact ⟨(mk_3 hs e hB).2, rfl⟩
      | true => exact absurd (mk_0 hs e hB).2 h0
    · cases hB : belB b c u s X d with
      | false => rw [(mk_3 hs e hB).2] at h0; exact absurd h0 (by decide)
      | true =>
        obtain ⟨rfl, rfl⟩ := hg e.1 hB
        rw [(mk_0 hs e hB).1]
        exact ⟨rfl, rfl, fun j _ => rfl⟩

end Go.Proofs.YtdaaddkipdmajaaGreatDoor
