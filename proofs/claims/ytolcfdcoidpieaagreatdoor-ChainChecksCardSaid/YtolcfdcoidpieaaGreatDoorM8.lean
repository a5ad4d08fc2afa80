/- Part of the proof: HV15, Glt, HV16, HV17, Clm, Prv, Acc, Prv2, Chv, HK1, HK2, HW1, Prv3, HW2, HK3, SpOpen, SpOpenP, Args, Args3, Args2, EnGlob. -/
import Derived.Test.YtolcfdcoidpieaaGreatDoorM7
import Derived.Test.YtolcfdcoidpieaaGreatDoorProg
import Derived.Test.YtolcfdcoidpieaaGreatDoorM5
import Derived.Test.YtolcfdcoidpieaaGreatDoorM6
import Derived.Test.YtolcfdcoidpieaaGreatDoorM3
import Derived.Test.YtolcfdcoidpieaaGreatDoorM4
import Derived.DataShut
import Derived.OpenShut
import Derived.FnData
import Derived.MakeChecks
namespace Go.Proofs.YtolcfdcoidpieaaGreatDoor
open Go Go.Am Go.Sp
set_option maxRecDepth 100000

theorem rtop_c (s : Spend) (n : Nat) (h1 : n = 2 ^ dpN s) (hd : dpN s ≤ 5) : Pure Tryz.prog gl0 84 [hsl n (fun i => leafF (lbF s i)), .int .i64 0, .int .i64 0] (.agg (u8c (topF s))) := by
  subst h1
  have h := tnode_c (dpN s) hd (fun i => leafF (lbF s i)) (fun i _ => leafF_by _) (dpN s) 0 (Nat.le_refl _) (by rw [Nat.sub_self]; decide)
  rwa [Nat.sub_self] at h

theorem rvfy_c (b : Bas) (r : Rcd) (s : Spend) (hw : b.gr.W) (hr : byB s.root 32) (hp : byB s.payee 32) (hf : ∀ k, k < s.np → byB (s.pf k) 32) (hn : s.np ≤ 1000000) (hl : s.nl ≤ 1000) : Pure Tryz.prog gl0 41 [b.av, r.av, s.av] (.bool (vfy b r s)) := by
  have c0 := r11valid_c b hw
  have c1 := rcval_c b r s.coin hw hr
  have c2 := rnode_c s.depth s.level s.index
  have c3 := rctx_c s.cxt
  have c9 := fun h => rspan_c s.depth s.level s.index h
  have c4 := rchal_c b s.coin s.level s.index s.cxt hr hp
  have c5 := fun x r1 r2 hv ha hk => rleaf_c b s.a (chS b s) x r1 r2 hv ha hk
  have c6 := fun n h1 => rhash_c n h1 (lbF s)
  have c7 := rtop_c s
  have c8 := fun h1 h2 h3 => rfol_c (topF s) s.pidx s.np s.pf hn h1 h2 h3 hf
  refine pure_sk (own := ow0) Tryz.func41 (by kernel_rfl) mixed (by kernel_rfl)
    (.sc (true) 19 ([AV.agg (Bas.cells b)]) (AV.bool (validB b)) (.sc ((!validB b) == false) 58 ([AV.agg (Bas.cells b), AV.agg (Rcd.cells r), AV.agg (Zi s.1 :: Zi s.2 :: Zi s.3 :: Zi s.4 :: Zi s.5 :: (u8c s.6 ++ [Zi s.7, Zi s.8, Zi s.9, Zi s.10]))]) (AV.bool (coinV b r (Spend.coin s))) (.sc ((!validB b || !coinV b r (Spend.coin s)) == false) 21 ([Zi s.4, AV.agg [Zi s.11, Zi s.12]]) (AV.bool (nodeB (Spend.depth s) (Spend.level s) (Spend.index s))) (.sc ((!validB b || !coinV b r (Spend.coin s) || !nodeB s.4 s.11 s.12) == false) 22 ([AV.agg (u8c s.13 ++ [Zi s.14, Zi s.15])]) (AV.bool (ctxB (Cxt.time (Spend.cxt s)) (Cxt.number (Spend.cxt s)))) (.br (!validB b || !coinV b r (Spend.coin s) || !nodeB s.4 s.11 s.12 || !ctxB s.14 s.15) (.out (AV.bool false) [] (AV.bool (vfy b r s)) []) (.sc (true) 80 ([Zi s.4, AV.agg [Zi s.11, Zi s.12]]) (AV.tup [Zi (spanA (Spend.depth s) (Spend.level s) (Spend.index s)), Zi (spanZ (Spend.depth s) (Spend.level s) (Spend.index s))]) (.br ((↑s.16 : Int) != IntKind.wrap IntKind.i64 (spanZ s.4 s.11 s.12 - spanA s.4 s.11 s.12) || s.18 != s.12 || (↑s.19 : Int) != s.11) (.out (AV.bool false) [] (AV.bool (vfy b r s)) []) (.sc (true) 81 ([AV.agg (Bas.cells b), AV.agg (Zi s.1 :: Zi s.2 :: Zi s.3 :: Zi s.4 :: Zi s.5 :: (u8c s.6 ++ [Zi s.7, Zi s.8, Zi s.9, Zi s.10])), AV.agg [Zi s.11, Zi s.12], AV.agg (u8c s.13 ++ [Zi s.14, Zi s.15])]) (Zi (chalN (Grp.q (Bas.gr b)) (Spend.coin s) (Spend.level s) (Spend.index s) (Spend.cxt s))) (.loop ({ x : Nat // x ≤ Spend.nl s ∧ (fun (x : Nat) => ∀ (j : Nat), j < x → okL b s j = true) x }) (fun (x : { x : Nat // x ≤ Spend.nl s ∧ (fun (x : Nat) => ∀ (j : Nat), j < x → okL b s j = true) x }) => mkSt [3, 5, 9, 10, 11] [AV.own (0) (6) (0) (0) (6), AV.own (1) (80) (0) (0) (80), Zi (chalN (Bas.gr b).2 (Spend.coin s) s.11 s.12 (Spend.cxt s)), AV.osl (2 : Nat) (1 : Nat) (0 : Nat) (x.1), Zi (↑(x.1) : Int)] [some ⟨6, 1, true, Rep.lst [Bas.cells b]⟩, some ⟨80, 1, true, Rep.lst [Spend.cells s]⟩, some ⟨(1 : Nat), x.1, true, Rep.fn fun (i x : Nat) => Zi (lbF s i)⟩]) (fun (x : { x : Nat // x ≤ Spend.nl s ∧ (fun (x : Nat) => ∀ (j : Nat), j < x → okL b s j = true) x }) => Spend.nl s - x.1) (⟨(0 : Nat), ⟨Nat.zero_le (Spend.nl s), fun (j : Nat) (hj : j < (0 : Nat)) => absurd hj (Nat.not_lt_zero j)⟩⟩) ([3, 5, 9, 10, 11]) ([0, 16, 882]) ([AV.own (0) (6) (0) (0) (6), AV.own (1) (80) (0) (0) (80), Zi (chalN (Bas.gr b).2 (Spend.coin s) s.11 s.12 (Spend.cxt s)), AV.nsl, Zi 0]) ([some ⟨6, 1, true, Rep.lst [Bas.cells b]⟩, some ⟨80, 1, true, Rep.lst [Spend.cells s]⟩, some ⟨1, 0, true, Rep.lst []⟩]) (fun x10 => (.br (decide ((↑x10.1 : Int) < (↑s.16 : Int))) (.req ((0 : Int) ≤ (↑x10.1 : Int) ∧ (↑x10.1 : Int) < (↑s.16 : Int)) (.sc (true) 82 ([AV.agg (Bas.cells b), Zi s.5, Zi (chalN (Bas.gr b).2 (Spend.coin s) s.11 s.12 (Spend.cxt s)), AV.agg [Zi (s.17 (Int.toNat (↑x10.1 : Int)) (0)), Zi (s.17 (Int.toNat (↑x10.1 : Int)) (1)), Zi (s.17 (Int.toNat (↑x10.1 : Int)) (2))]]) (AV.bool (leafB b (Spend.a s) (chS b s) (s.17 (Int.toNat (↑x10.1 : Int)) (0)) (s.17 (Int.toNat (↑x10.1 : Int)) (1)) (s.17 (Int.toNat (↑x10.1 : Int)) (2)))) (.br (!leafB b s.5 (chS b s) (s.17 (Int.toNat (↑x10.1 : Int)) (0)) (s.17 (Int.toNat (↑x10.1 : Int)) (1)) (s.17 (Int.toNat (↑x10.1 : Int)) (2))) (.out (AV.bool false) [] (AV.bool (vfy b r s)) []) (.loop ({ x : Nat // x ≤ x10.1 ∧ (fun (k : Nat) => ∀ (j : Nat), j < k → ¬lbF s j = lbF s (x10.1)) x }) (fun (x : { x : Nat // x ≤ x10.1 ∧ (fun (k : Nat) => ∀ (j : Nat), j < k → ¬lbF s j = lbF s (x10.1)) x }) => mkSt [3, 5, 9, 10, 11, 12] [AV.own (0) (6) (0) (0) (6), AV.own (1) (80) (0) (0) (80), Zi (chalN (Bas.gr b).2 (Spend.coin s) s.11 s.12 (Spend.cxt s)), AV.osl (2) (1) (0) x10.1, Zi (↑x10.1 : Int), Zi (↑(x.1) : Int)] [some ⟨6, 1, true, Rep.lst [Bas.cells b]⟩, some ⟨80, 1, true, Rep.lst [Spend.cells s]⟩, some ⟨1, x10.1, true, Rep.fn fun (i j : Nat) => Zi (lbF s i)⟩]) (fun (x : { x : Nat // x ≤ x10.1 ∧ (fun (k : Nat) => ∀ (j : Nat), j < k → ¬lbF s j = lbF s (x10.1)) x }) => x10.1 - x.1) (⟨(0 : Nat), ⟨Nat.zero_le (x10.1), fun (j : Nat) (hj : j < (0 : Nat)) => absurd hj (Nat.not_lt_zero j)⟩⟩) ([3, 5, 9, 10, 11, 12]) ([0, 1, 2]) ([AV.own (0) (6) (0) (0) (6), AV.own (1) (80) (0) (0) (80), Zi (chalN (Bas.gr b).2 (Spend.coin s) s.11 s.12 (Spend.cxt s)), AV.osl (2) (1) (0) x10.1, Zi (↑x10.1 : Int), Zi 0]) ([some ⟨6, 1, true, Rep.lst [Bas.cells b]⟩, some ⟨80, 1, true, Rep.lst [Spend.cells s]⟩, some ⟨1, x10.1, true, Rep.fn fun (i j : Nat) => Zi (lbF s i)⟩]) (fun x16 => (.br (decide ((↑x16.1 : Int) < (↑x10.1 : Int))) (.req ((0 : Int) ≤ (↑x16.1 : Int) ∧ (↑x16.1 : Int) < (↑s.16 : Int)) (.req ((0 : Int) ≤ (↑x10.1 : Int) ∧ (↑x10.1 : Int) < (↑s.16 : Int)) (.br (s.17 (Int.toNat (↑x16.1 : Int)) (0) == s.17 (Int.toNat (↑x10.1 : Int)) (0)) (.out (AV.bool false) [] (AV.bool (vfy b r s)) []) (.again (Again (0) (fun (x : { x : Nat // x ≤ x10.1 ∧ (fun (k : Nat) => ∀ (j : Nat), j < k → ¬lbF s j = lbF s (x10.1)) x }) => mkSt [3, 5, 9, 10, 11, 12] [AV.own (0) (6) (0) (0) (6), AV.own (1) (80) (0) (0) (80), Zi (chalN (Bas.gr b).2 (Spend.coin s) s.11 s.12 (Spend.cxt s)), AV.osl (2) (1) (0) x10.1, Zi (↑x10.1 : Int), Zi (↑(x.1) : Int)] [some ⟨6, 1, true, Rep.lst [Bas.cells b]⟩, some ⟨80, 1, true, Rep.lst [Spend.cells s]⟩, some ⟨1, x10.1, true, Rep.fn fun (i j : Nat) => Zi (lbF s i)⟩]) (fun (x : { x : Nat // x ≤ x10.1 ∧ (fun (k : Nat) => ∀ (j : Nat), j < k → ¬lbF s j = lbF s (x10.1)) x }) => x10.1 - x.1) x16) ([3, 5, 9, 10, 11, 12]) ([0, 1, 2]) ([AV.own (0) (6) (0) (0) (6), AV.own (1) (80) (0) (0) (80), Zi (chalN (Bas.gr b).2 (Spend.coin s) s.11 s.12 (Spend.cxt s)), AV.osl (2) (1) (0) x10.1, Zi (↑x10.1 : Int), Zi (IntKind.wrap IntKind.i64 ((↑x16.1 : Int) + (1 : Int)))]) ([some ⟨6, 1, true, Rep.lst [Bas.cells b]⟩, some ⟨80, 1, true, Rep.lst [Spend.cells s]⟩, some ⟨1, x10.1, true, Rep.fn fun (i j : Nat) => Zi (lbF s i)⟩]))))) (.req ((0 : Int) ≤ (↑x10.1 : Int) ∧ (↑x10.1 : Int) < (↑s.16 : Int)) (.req ((x10.1 + 1) * 8 ≤ 140737488355328) (.again (Again (0) (fun (x : { x : Nat // x ≤ Spend.nl s ∧ (fun (x : Nat) => ∀ (j : Nat), j < x → okL b s j = true) x }) => mkSt [3, 5, 9, 10, 11] [AV.own (0) (6) (0) (0) (6), AV.own (1) (80) (0) (0) (80), Zi (chalN (Bas.gr b).2 (Spend.coin s) s.11 s.12 (Spend.cxt s)), AV.osl (2 : Nat) (1 : Nat) (0 : Nat) (x.1), Zi (↑(x.1) : Int)] [some ⟨6, 1, true, Rep.lst [Bas.cells b]⟩, some ⟨80, 1, true, Rep.lst [Spend.cells s]⟩, some ⟨(1 : Nat), x.1, true, Rep.fn fun (i x : Nat) => Zi (lbF s i)⟩]) (fun (x : { x : Nat // x ≤ Spend.nl s ∧ (fun (x : Nat) => ∀ (j : Nat), j < x → okL b s j = true) x }) => Spend.nl s - x.1) x10) ([3, 5, 9, 10, 11]) ([0, 1, 91]) ([AV.own (0) (6) (0) (0) (6), AV.own (1) (80) (0) (0) (80), Zi (chalN (Bas.gr b).2 (Spend.coin s) s.11 s.12 (Spend.cxt s)), AV.osl (2) (1) (0) (x10.1 + 1), Zi (IntKind.wrap IntKind.i64 ((↑x10.1 : Int) + (1 : Int)))]) ([some ⟨6, 1, true, Rep.lst [Bas.cells b]⟩, some ⟨80, 1, true, Rep.lst [Spend.cells s]⟩, some ⟨1, x10.1 + 1, true, Rep.fn fun (i j : Nat) => Zi (bif Nat.blt i x10.1 then lbF s i else intOfAV (atL [Zi (s.17 (Int.toNat (↑x10.1 : Int)) (0))] j))⟩])))))))))) (.dc (true) 85 ([AV.isl (1) x10.1 fun (r k : Nat) => Zi (lbF s (r + 0))]) (hsl x10.1 fun (i : Nat) => leafF (lbF s i)) (.sc (true) 84 ([AV.isl (32) x10.1 fun (i j : Nat) => Zb (leafF (lbF s i) j), Zi 0, Zi 0]) (AV.agg (u8c (topF s))) (.sc (true) 83 ([AV.agg (u8c (topF s)), AV.agg [Zi s.18, AV.isl (32) s.19 fun (i j : Nat) => Zb (s.20 i j)]]) (AV.agg (u8c (folF (topF s) (Spend.pidx s) (Spend.pf s) (Spend.np s)))) (.out (AV.bool (folF (topF s) s.18 s.20 s.19 (0) == s.6 (0) && (folF (topF s) s.18 s.20 s.19 (1) == s.6 (1) && (folF (topF s) s.18 s.20 s.19 (2) == s.6 (2) && (folF (topF s) s.18 s.20 s.19 (3) == s.6 (3) && (folF (topF s) s.18 s.20 s.19 (4) == s.6 (4) && (folF (topF s) s.18 s.20 s.19 (5) == s.6 (5) && (folF (topF s) s.18 s.20 s.19 (6) == s.6 (6) && (folF (topF s) s.18 s.20 s.19 (7) == s.6 (7) && (folF (topF s) s.18 s.20 s.19 (8) == s.6 (8) && (folF (topF s) s.18 s.20 s.19 (9) == s.6 (9) && (folF (topF s) s.18 s.20 s.19 (10) == s.6 (10) && (folF (topF s) s.18 s.20 s.19 (11) == s.6 (11) && (folF (topF s) s.18 s.20 s.19 (12) == s.6 (12) && (folF (topF s) s.18 s.20 s.19 (13) == s.6 (13) && (folF (topF s) s.18 s.20 s.19 (14) == s.6 (14) && (folF (topF s) s.18 s.20 s.19 (15) == s.6 (15) && (folF (topF s) s.18 s.20 s.19 (16) == s.6 (16) && (folF (topF s) s.18 s.20 s.19 (17) == s.6 (17) && (folF (topF s) s.18 s.20 s.19 (18) == s.6 (18) && (folF (topF s) s.18 s.20 s.19 (19) == s.6 (19) && (folF (topF s) s.18 s.20 s.19 (20) == s.6 (20) && (folF (topF s) s.18 s.20 s.19 (21) == s.6 (21) && (folF (topF s) s.18 s.20 s.19 (22) == s.6 (22) && (folF (topF s) s.18 s.20 s.19 (23) == s.6 (23) && (folF (topF s) s.18 s.20 s.19 (24) == s.6 (24) && (folF (topF s) s.18 s.20 s.19 (25) == s.6 (25) && (folF (topF s) s.18 s.20 s.19 (26) == s.6 (26) && (folF (topF s) s.18 s.20 s.19 (27) == s.6 (27) && (folF (topF s) s.18 s.20 s.19 (28) == s.6 (28) && (folF (topF s) s.18 s.20 s.19 (29) == s.6 (29) && (folF (topF s) s.18 s.20 s.19 (30) == s.6 (30) && (folF (topF s) s.18 s.20 s.19 (31) == s.6 (31) && true))))))))))))))))))))))))))))))))) [] (AV.bool (vfy b r s)) [])))))))))))))))
    (by kernel_rfl) ?_
  refine k_sc (c0) ?_
  refine k_scg (fun h1 => c1) ?_
  refine k_scg (fun h2 => c2) ?_
  refine k_scg (fun h3 => c3) ?_
  refine k_br (fun h4 => ?_) (fun h4 => ?_)
  · have g4 := (cnd_or_t (cnd_or_t (cnd_or_t (cnd_not_t cnd_id_f) (cnd_not_t cnd_id_f)) (cnd_not_t cnd_id_f)) (cnd_not_t cnd_id_f)) h4
    exact k_out (Ent.of_eq (congrArg _ (rhd_no g4).symm))
  · have g4 := (cnd_or_f (cnd_or_f (cnd_or_f (cnd_not_f cnd_id_t) (cnd_not_f cnd_id_t)) (cnd_not_f cnd_id_t)) (cnd_not_f cnd_id_t)) h4
    refine k_sc (c9 (g4.1.2)) ?_
    refine k_br (fun h7 => ?_) (fun h7 => ?_)
    · have g7 := (cnd_or_t (cnd_or_t cnd_bne_t cnd_bne_t) cnd_bne_t) h7
      exact k_out (Ent.of_eq (congrArg _ (rhd_no2 g4 g7).symm))
    · have g7 := (cnd_or_f (cnd_or_f cnd_bne_f cnd_bne_f) cnd_bne_f) h7
      refine k_sc (c4 (by (cases rhd_ok g4 g7; assumption)) (by (cases rhd_ok g4 g7; assumption))) ?_
      refine k_loop (fun _ hs => hs.le (by repeat' (first | exact trivial | (first | exact Ent.refl _ | exact inc_ent (by omega) | exact Ent.nil rfl | exact Ent.of_eq (congrArg (AV.osl _ _ _) (by first | omega | (dsimp only; omega))) | exact Ent.of_eq (congrArg (AV.int _) (by first | omega | (dsimp only; omega)))) | refine And.intro ?_ ?_)) (by repeat' (first | exact trivial | (first | exact ObEnt.refl _ | exact ObEnt.junk | exact ObEnt.zero | exact ObEnt.push rfl rfl | exact ObEnt.pushRow rfl | exact ObEnt.len (by omega) | exact ObEnt.row (by repeat' (first | exact trivial | (first | exact Ent.refl _ | exact inc_ent (by omega) | exact Ent.nil rfl | exact Ent.of_eq (congrArg (AV.osl _ _ _) (by first | omega | (dsimp only; omega))) | exact Ent.of_eq (congrArg (AV.int _) (by first | omega | (dsimp only; omega)))) | refine And.intro ?_ ?_))) | refine And.intro ?_ ?_))) (fun x10 => ?_)
      try (have q10 := x10.2; dsimp only at q10)
      refine k_br (fun h11 => ?_) (fun h11 => ?_)
      · have g11 := cnd_dec_t h11
        refine k_req (by omega) ?_
        refine k_sc (c5 (s.17 (Int.toNat (↑x10.1 : Int)) (0)) (s.17 (Int.toNat (↑x10.1 : Int)) (1)) (s.17 (Int.toNat (↑x10.1 : Int)) (2)) (by exact validB_iff.1 (rhd_ok g4 g7).v) (by (cases rhd_ok g4 g7; assumption)) (by (cases rhd_ok g4 g7; assumption))) ?_
        refine k_br (fun h14 => ?_) (fun h14 => ?_)
        · have g14 := (cnd_not_t cnd_id_f) h14
          try simp only [Int.toNat_natCast] at g14
          exact k_out (Ent.of_eq (congrArg _ (vfy_l (by omega) (okL_l g14)).symm))
        · have g14 := (cnd_not_f cnd_id_t) h14
          try simp only [Int.toNat_natCast] at g14
          refine k_loop (fun _ hs => hs.le (by repeat' (first | exact trivial | (first | exact Ent.refl _ | exact inc_ent (by omega) | exact Ent.nil rfl | exact Ent.of_eq (congrArg (AV.osl _ _ _) (by first | omega | (dsimp only; omega))) | exact Ent.of_eq (congrArg (AV.int _) (by first | omega | (dsimp only; omega)))) | refine And.intro ?_ ?_)) (by repeat' (first | exact trivial | (first | exact ObEnt.refl _ | exact ObEnt.junk | exact ObEnt.zero | exact ObEnt.push rfl rfl | exact ObEnt.pushRow rfl | exact ObEnt.len (by omega) | exact ObEnt.row (by repeat' (first | exact trivial | (first | exact Ent.refl _ | exact inc_ent (by omega) | exact Ent.nil rfl | exact Ent.of_eq (congrArg (AV.osl _ _ _) (by first | omega | (dsimp only; omega))) | exact Ent.of_eq (congrArg (AV.int _) (by first | omega | (dsimp only; omega)))) | refine And.intro ?_ ?_))) | refine And.intro ?_ ?_))) (fun x16 => ?_)
          try (have q16 := x16.2; dsimp only at q16)
          refine k_br (fun h17 => ?_) (fun h17 => ?_)
          · have g17 := cnd_dec_t h17
            refine k_req (by omega) ?_
            refine k_req (by omega) ?_
            refine k_br (fun h20 => ?_) (fun h20 => ?_)
            · have g20 := cnd_beq_t h20
              try simp only [Int.toNat_natCast] at g20
              exact k_out (Ent.of_eq (congrArg _ (vfy_l (i := x10.1) (by omega) (okL_m (by omega) g20)).symm))
            · have g20 := cnd_beq_f h20
              try simp only [Int.toNat_natCast] at g20
              exact k_again (⟨x16.1 + 1, by omega, ne_next x16.2.2 g20⟩) (fun _ hs => hs.le (by repeat' (first | exact trivial | (first | exact Ent.refl _ | exact inc_ent (by omega) | exact Ent.nil rfl | exact Ent.of_eq (congrArg (AV.osl _ _ _) (by first | omega | (dsimp only; omega))) | exact Ent.of_eq (congrArg (AV.int _) (by first | omega | (dsimp only; omega)))) | refine And.intro ?_ ?_)) (by repeat' (first | exact trivial | (first | exact ObEnt.refl _ | exact ObEnt.junk | exact ObEnt.zero | exact ObEnt.push rfl rfl | exact ObEnt.pushRow rfl | exact ObEnt.len (by omega) | exact ObEnt.row (by repeat' (first | exact trivial | (first | exact Ent.refl _ | exact inc_ent (by omega) | exact Ent.nil rfl | exact Ent.of_eq (congrArg (AV.osl _ _ _) (by first | omega | (dsimp only; omega))) | exact Ent.of_eq (congrArg (AV.int _) (by first | omega | (dsimp only; omega)))) | refine And.intro ?_ ?_))) | refine And.intro ?_ ?_))) (by (dsimp only; omega))
          · have g17 := cnd_dec_f h17
            refine k_req (by omega) ?_
            refine k_req (by omega) ?_
            exact k_again (⟨x10.1 + 1, by omega, all_next x10.2.2 (okL_n g14 (fun j hj => x16.2.2 j (by omega)))⟩) (fun _ hs => hs.le (by repeat' (first | exact trivial | (first | exact Ent.refl _ | exact inc_ent (by omega) | exact Ent.nil rfl | exact Ent.of_eq (congrArg (AV.osl _ _ _) (by first | omega | (dsimp only; omega))) | exact Ent.of_eq (congrArg (AV.int _) (by first | omega | (dsimp only; omega)))) | refine And.intro ?_ ?_)) (by repeat' (first | exact trivial | (first | exact ObEnt.refl _ | exact ObEnt.junk | exact ObEnt.zero | exact ObEnt.push rfl rfl | exact ObEnt.pushRow rfl | exact ObEnt.len (by omega) | exact ObEnt.row (by repeat' (first | exact trivial | (first | exact Ent.refl _ | exact inc_ent (by omega) | exact Ent.nil rfl | exact Ent.of_eq (congrArg (AV.osl _ _ _) (by first | omega | (dsimp only; omega))) | exact Ent.of_eq (congrArg (AV.int _) (by first | omega | (dsimp only; omega)))) | refine And.intro ?_ ?_))) | refine And.intro ?_ ?_))) (by (dsimp only; omega))
      · have g11 := cnd_dec_f h11
        refine k_dc (c6 (x10.1) (by omega)) ?_
        refine k_sc (c7 (x10.1) (by (cases rhd_ok g4 g7; rw [show x10.1 = s.nl by omega]; assumption)) (by (cases rhd_ok g4 g7; assumption))) ?_
        refine k_sc (c8 (by (cases rhd_ok g4 g7; assumption)) (by (cases rhd_ok g4 g7; assumption)) (by (cases rhd_ok g4 g7; assumption))) ?_
        exact k_out (Ent.of_eq (congrArg _ (vfy_r (rhd_ok g4 g7).hd g7.2 (fun i hi => x10.2.2 i (by omega))).symm))

end Go.Proofs.YtolcfdcoidpieaaGreatDoor

namespace Go.Sp
open Go Go.Am
abbrev rcl (n : Nat) (R : Nat → Nat → Int) : AV := .isl 11 n fun i j => .int .i64 (R i j)
def rcdOf (f : Nat → Int) : Rcd := ⟨f 0, f 1, f 2, f 3, f 4, f 5, f 6, f 7, f 8, f 9, f 10⟩
def fnB (R : Nat → Nat → Int) (k e d : Int) (i : Nat) : Bool := R i 0 == k && R i 1 == e && R i 2 == d
def fnI (R : Nat → Nat → Int) (n : Nat) (k e d : Int) : Int := firstI (fnB R k e d) n 0
def fnS (R : Nat → Nat → Int) (n : Nat) (s : Spend) : Int := fnI R n s.bank s.epoch s.denom
def rcX (R : Nat → Nat → Int) (n : Nat) (s : Spend) : Rcd := bif decide (fnS R n s ≥ 0) then rcdOf (R (fnS R n s).toNat) else rcdOf fun _ => 0
def verd (b : Bas) (R : Nat → Nat → Int) (n : Nat) (s : Spend) : Bool := decide (fnS R n s ≥ 0) && vfy b (rcX R n s) s
theorem fnI_lt {R : Nat → Nat → Int} {n : Nat} {k e d : Int} (h : ¬ fnI R n k e d < 0) : 0 ≤ fnI R n k e d ∧ fnI R n k e d < n := by
  have := firstI_lt (p := fnB R k e d) n 0
  unfold fnI at *
  omega
theorem rcX_no {R : Nat → Nat → Int} {n : Nat} {s : Spend} (h : fnS R n s < 0) : rcX R n s = rcdOf fun _ => 0 := by
  unfold rcX; rw [decide_eq_false (by omega)]; rfl
theorem rcX_ok {R : Nat → Nat → Int} {n : Nat} {s : Spend} (h : ¬ fnS R n s < 0) : rcX R n s = rcdOf (R (fnS R n s).toNat) := by
  unfold rcX; rw [decide_eq_true (by omega)]; rfl
theorem rec_no {R : Nat → Nat → Int} {n : Nat} {s : Spend} (h : fnS R n s < 0) : AV.tup [(rcdOf fun _ => 0).av, .bool false] = .tup [(rcX R n s).av, .bool (decide (fnS R n s ≥ 0))] := by
  rw [rcX_no h, decide_eq_false (by omega)]
theorem rec_ok {R : Nat → Nat → Int} {n : Nat} {s : Spend} (h : ¬ fnS R n s < 0) : AV.tup [(rcdOf (R (fnS R n s).toNat)).av, .bool true] = .tup [(rcX R n s).av, .bool (decide (fnS R n s ≥ 0))] := by
  rw [rcX_ok h, decide_eq_true (by omega)]
theorem fnB_t {R : Nat → Nat → Int} {k e d : Int} {i : Nat} (h : (R i 0 = k ∧ R i 1 = e) ∧ R i 2 = d) : fnB R k e d i = true := by unfold fnB; simp [h]
theorem fnB_f {R : Nat → Nat → Int} {k e d : Int} {i : Nat} (h : (¬ R i 0 = k ∨ ¬ R i 1 = e) ∨ ¬ R i 2 = d) : fnB R k e d i = false := by
  unfold fnB; rcases h with (h | h) | h <;> simp [h]
end Go.Sp

namespace Go.Proofs.YtolcfdcoidpieaaGreatDoor
open Go Go.Am Go.Sp
set_option maxRecDepth 100000

theorem vfind1_c (r0 r1 r2 r3 r4 r5 r6 r7 r8 r9 r10 k e d : Int) : Pure Tryz.prog gl0 137 [.agg [.int .i64 r0, .int .i64 r1, .int .i64 r2, .int .i64 r3, .int .i64 r4, .int .i64 r5, .int .i64 r6, .int .i64 r7, .int .i64 r8, .int .i64 r9, .int .i64 r10], .ipt 1 (atL [.int .i64 k]), .ipt 1 (atL [.int .i64 e]), .ipt 1 (atL [.int .i64 d])] (.bool (r0 == k && r1 == e && r2 == d)) := by
  refine pure_sk (own := ow0) Tryz.func137 (by kernel_rfl) mixed (by kernel_rfl)
    (let y0 : AV := (AV.bool (r0 == k && r1 == e && r2 == d)); (.out y0 [] y0 []))
    (by kernel_rfl) ?_
  exact k_out (Ent.refl _)

theorem vindex_c (R : Nat → Nat → Int) (n : Nat) (k e d : Int) (hn : n ≤ 1000) : Pure Tryz.prog gl0 136 [rcl n R, .fn (.func 137) [] [.ipt 1 (atL [.int .i64 k]), .ipt 1 (atL [.int .i64 e]), .ipt 1 (atL [.int .i64 d])]] (.int .i64 (fnI R n k e d)) := by
  unfold fnI
  refine pure_sk (own := ow0) Tryz.func136 (by kernel_rfl) mixed (by kernel_rfl)
    (let y0 : List AV := [AV.ipt 1 (atL [Zi k]), AV.ipt 1 (atL [Zi e]), AV.ipt 1 (atL [Zi d])]; (.loop ({ x : Nat // x ≤ n ∧ (fun (i : Nat) => firstI (fnB R k e d) n 0 = firstI (fnB R k e d) (n - i) i) x }) (fun (x : { x : Nat // x ≤ n ∧ (fun (i : Nat) => firstI (fnB R k e d) n 0 = firstI (fnB R k e d) (n - i) i) x }) => mkSt [0, 1, 7, 8] [AV.isl 11 n fun (i j : Nat) => Zi (R i j), AV.fn (Fn.func (137 : FuncId)) [] y0, Zi (↑n : Int), Zi (↑(x.1) : Int)] []) (fun (x : { x : Nat // x ≤ n ∧ (fun (i : Nat) => firstI (fnB R k e d) n 0 = firstI (fnB R k e d) (n - i) i) x }) => n - x.1) (⟨0, ⟨Nat.zero_le n, rfl⟩⟩) ([0, 1, 7, 8]) ([]) ([AV.isl 11 n fun (i j : Nat) => Zi (R i j), AV.fn (Fn.func (137 : FuncId)) [] y0, Zi (↑n : Int), Zi 0]) ([]) (fun x0 => (.br (decide ((↑x0.1 : Int) < (↑n : Int))) (.req ((0 : Int) ≤ (↑x0.1 : Int) ∧ (↑x0.1 : Int) < (↑n : Int)) (.sc (true) 137 ([AV.agg [Zi (R (Int.toNat (↑x0.1 : Int)) 0), Zi (R (Int.toNat (↑x0.1 : Int)) 1), Zi (R (Int.toNat (↑x0.1 : Int)) 2), Zi (R (Int.toNat (↑x0.1 : Int)) 3), Zi (R (Int.toNat (↑x0.1 : Int)) 4), Zi (R (Int.toNat (↑x0.1 : Int)) 5), Zi (R (Int.toNat (↑x0.1 : Int)) 6), Zi (R (Int.toNat (↑x0.1 : Int)) 7), Zi (R (Int.toNat (↑x0.1 : Int)) 8), Zi (R (Int.toNat (↑x0.1 : Int)) 9), Zi (R (Int.toNat (↑x0.1 : Int)) 10)], AV.ipt 1 (atL [Zi k]), AV.ipt 1 (atL [Zi e]), AV.ipt 1 (atL [Zi d])]) (AV.bool (R (Int.toNat (↑x0.1 : Int)) 0 == k && R (Int.toNat (↑x0.1 : Int)) 1 == e && R (Int.toNat (↑x0.1 : Int)) 2 == d)) (.br (R (Int.toNat (↑x0.1 : Int)) 0 == k && R (Int.toNat (↑x0.1 : Int)) 1 == e && R (Int.toNat (↑x0.1 : Int)) 2 == d) (.out (Zi (↑x0.1 : Int)) [] (Zi (firstI (fnB R k e d) n 0)) []) (.again (Again 0 (fun (x : { x : Nat // x ≤ n ∧ (fun (i : Nat) => firstI (fnB R k e d) n 0 = firstI (fnB R k e d) (n - i) i) x }) => mkSt [0, 1, 7, 8] [AV.isl 11 n fun (i j : Nat) => Zi (R i j), AV.fn (Fn.func (137 : FuncId)) [] y0, Zi (↑n : Int), Zi (↑(x.1) : Int)] []) (fun (x : { x : Nat // x ≤ n ∧ (fun (i : Nat) => firstI (fnB R k e d) n 0 = firstI (fnB R k e d) (n - i) i) x }) => n - x.1) x0) ([0, 1, 7, 8]) ([]) ([AV.isl 11 n fun (i j : Nat) => Zi (R i j), AV.fn (Fn.func (137 : FuncId)) [] y0, Zi (↑n : Int), Zi (IntKind.wrap IntKind.i64 ((↑x0.1 : Int) + 1))]) ([]))))) (.out (Zi (-1)) [] (Zi (firstI (fnB R k e d) n 0)) [])))))
    (by kernel_rfl) ?_
  refine k_loop (fun _ hs => hs.le (⟨.refl _, .refl _, .refl _, .refl _, trivial⟩) (trivial)) (fun x0 => ?_)
  try (have q0 := x0.2; dsimp only at q0)
  refine k_br (fun h1 => ?_) (fun h1 => ?_)
  · have g1 := cnd_dec_t h1
    refine k_req (by omega) ?_
    refine k_sc (vfind1_c (R (Int.toNat (↑x0.1 : Int)) (0)) (R (Int.toNat (↑x0.1 : Int)) (1)) (R (Int.toNat (↑x0.1 : Int)) (2)) (R (Int.toNat (↑x0.1 : Int)) (3)) (R (Int.toNat (↑x0.1 : Int)) (4)) (R (Int.toNat (↑x0.1 : Int)) (5)) (R (Int.toNat (↑x0.1 : Int)) (6)) (R (Int.toNat (↑x0.1 : Int)) (7)) (R (Int.toNat (↑x0.1 : Int)) (8)) (R (Int.toNat (↑x0.1 : Int)) (9)) (R (Int.toNat (↑x0.1 : Int)) (10)) (k) (e) (d)) ?_
    refine k_br (fun h4 => ?_) (fun h4 => ?_)
    · have g4 := (cnd_and_t (cnd_and_t cnd_beq_t cnd_beq_t) cnd_beq_t) h4
      try simp only [Int.toNat_natCast] at g4
      exact k_out (Ent.of_eq (congrArg _ (first_hit x0.2.2 (by omega) h4)))
    · have g4 := (cnd_and_f (cnd_and_f cnd_beq_f cnd_beq_f) cnd_beq_f) h4
      try simp only [Int.toNat_natCast] at g4
      exact k_again (⟨x0.1 + 1, by omega, first_next x0.2.2 (by omega) h4⟩) (fun _ hs => hs.le (⟨.refl _, .refl _, .refl _, inc_ent (by omega), trivial⟩) (trivial)) (by dsimp only; omega)
  · have g1 := cnd_dec_f h1
    exact k_out (Ent.of_eq (congrArg _ (first_miss x0.2.2 (by omega))))

theorem vfind_c (R : Nat → Nat → Int) (n : Nat) (k e d : Int) (hn : n ≤ 1000) : Pure Tryz.prog gl0 69 [rcl n R, .int .i64 k, .int .i64 e, .int .i64 d] (.int .i64 (fnI R n k e d)) := by
  have c1 := vindex_c R n k e d hn
  refine pure_sk (own := ow0) Tryz.func69 (by kernel_rfl) mixed (by kernel_rfl)
    (.sc (true) 136 ([AV.isl 11 n fun (i j : Nat) => Zi (R i j), AV.fn (Fn.func 137) [] [AV.ipt 1 fun (k_1 : Nat) => atL [Zi k] k_1, AV.ipt 1 fun (k : Nat) => atL [Zi e] k, AV.ipt 1 fun (k : Nat) => atL [Zi d] k]]) (Zi (fnI R n k e d)) (.out (Zi (fnI R n k e d)) [] (Zi (fnI R n k e d)) []))
    (by kernel_rfl) ?_
  refine k_sc (c1) ?_
  exact k_out (Ent.refl _)

theorem rvfind_c (R : Nat → Nat → Int) (n : Nat) (k e d : Int) (hn : n ≤ 1000) : Pure Tryz.prog gl0 79 [rcl n R, .int .i64 k, .int .i64 e, .int .i64 d] (.int .i64 (fnI R n k e d)) := by
  unfold fnI
  refine pure_sk (own := ow0) Tryz.func79 (by kernel_rfl) mixed (by kernel_rfl)
    (.loop ({ x : Nat // x ≤ n ∧ (fun (i : Nat) => firstI (fnB R k e d) n 0 = firstI (fnB R k e d) (n - i) i) x }) (fun (x : { x : Nat // x ≤ n ∧ (fun (i : Nat) => firstI (fnB R k e d) n 0 = firstI (fnB R k e d) (n - i) i) x }) => mkSt [0, 1, 2, 3, 9] [AV.isl 11 n fun (i j : Nat) => Zi (R i j), Zi k, Zi e, Zi d, Zi (↑(x.1) : Int)] []) (fun (x : { x : Nat // x ≤ n ∧ (fun (i : Nat) => firstI (fnB R k e d) n 0 = firstI (fnB R k e d) (n - i) i) x }) => n - x.1) (⟨0, ⟨Nat.zero_le n, rfl⟩⟩) ([0, 1, 2, 3, 9]) ([]) ([AV.isl 11 n fun (i j : Nat) => Zi (R i j), Zi k, Zi e, Zi d, Zi 0]) ([]) (fun x0 => (.br (decide ((↑x0.1 : Int) < (↑n : Int))) (.req ((0 : Int) ≤ (↑x0.1 : Int) ∧ (↑x0.1 : Int) < (↑n : Int)) (.req (((R (Int.toNat (↑x0.1 : Int)) 0 == k) == true) = true → (0 : Int) ≤ (↑x0.1 : Int) ∧ (↑x0.1 : Int) < (↑n : Int)) (.req (((R (Int.toNat (↑x0.1 : Int)) 0 == k && R (Int.toNat (↑x0.1 : Int)) 1 == e) == true) = true → (0 : Int) ≤ (↑x0.1 : Int) ∧ (↑x0.1 : Int) < (↑n : Int)) (.br (R (Int.toNat (↑x0.1 : Int)) 0 == k && R (Int.toNat (↑x0.1 : Int)) 1 == e && R (Int.toNat (↑x0.1 : Int)) 2 == d) (.out (Zi (↑x0.1 : Int)) [] (Zi (firstI (fnB R k e d) n 0)) []) (.again (Again 0 (fun (x : { x : Nat // x ≤ n ∧ (fun (i : Nat) => firstI (fnB R k e d) n 0 = firstI (fnB R k e d) (n - i) i) x }) => mkSt [0, 1, 2, 3, 9] [AV.isl 11 n fun (i j : Nat) => Zi (R i j), Zi k, Zi e, Zi d, Zi (↑(x.1) : Int)] []) (fun (x : { x : Nat // x ≤ n ∧ (fun (i : Nat) => firstI (fnB R k e d) n 0 = firstI (fnB R k e d) (n - i) i) x }) => n - x.1) x0) ([0, 1, 2, 3, 9]) ([]) ([AV.isl 11 n fun (i j : Nat) => Zi (R i j), Zi k, Zi e, Zi d, Zi (IntKind.wrap IntKind.i64 ((↑x0.1 : Int) + 1))]) ([])))))) (.out (Zi (-1)) [] (Zi (firstI (fnB R k e d) n 0)) []))))
    (by kernel_rfl) ?_
  refine k_loop (fun _ hs => hs.le (⟨.refl _, .refl _, .refl _, .refl _, .refl _, trivial⟩) (trivial)) (fun x0 => ?_)
  try (have q0 := x0.2; dsimp only at q0)
  refine k_br (fun h1 => ?_) (fun h1 => ?_)
  · have g1 := cnd_dec_t h1
    refine k_req (by omega) ?_
    refine k_req (fun hr => by have hr := (cnd_eqt_t cnd_beq_t) hr; omega) ?_
    refine k_req (fun hr => by have hr := (cnd_eqt_t (cnd_and_t cnd_beq_t cnd_beq_t)) hr; omega) ?_
    refine k_br (fun h5 => ?_) (fun h5 => ?_)
    · have g5 := (cnd_and_t (cnd_and_t cnd_beq_t cnd_beq_t) cnd_beq_t) h5
      try simp only [Int.toNat_natCast] at g5
      exact k_out (by exact Ent.of_eq (congrArg _ (first_hit x0.2.2 (by omega) (fnB_t g5))))
    · have g5 := (cnd_and_f (cnd_and_f cnd_beq_f cnd_beq_f) cnd_beq_f) h5
      try simp only [Int.toNat_natCast] at g5
      exact k_again (⟨x0.1 + 1, by omega, first_next x0.2.2 (by omega) (fnB_f g5)⟩) (fun _ hs => hs.le (⟨.refl _, .refl _, .refl _, .refl _, inc_ent (by omega), trivial⟩) (trivial)) (by dsimp only; omega)
  · have g1 := cnd_dec_f h1
    exact k_out (by exact Ent.of_eq (congrArg _ (first_miss x0.2.2 (by omega))))

end Go.Proofs.YtolcfdcoidpieaaGreatDoor

namespace Go.Proofs.YtolcfdcoidpieaaGreatDoor
open Go Go.Am Go.Sp
set_option maxRecDepth 100000



end Go.Proofs.YtolcfdcoidpieaaGreatDoor

namespace Go.Sp
open Go Go.Am
def oddB (b : Bas) (s : Spend) (i : Nat) : Bool := !(scB b (s.lf i 1) && scB b (s.lf i 2))
end Go.Sp

namespace Go.Sp
open Go Go.Am
end Go.Sp

namespace Go.Sp
open Go Go.Am
structure ClOk (b : Bas) (s : Spend) (u : Int) : Prop where
  v : validB b = true
  ok : okS s = true
  odd : ¬ firstI (oddB b s) s.nl 0 ≥ 0
  u : 0 ≤ u ∧ u < b.gr.q
  n : s.number < 1073741824
end Go.Sp

namespace Go.Sp
open Go Go.Am
end Go.Sp

namespace Go.Sp
open Go Go.Am
def passB (S : Nat → Spend) (i : Nat) (c : Coin) : Bool := (S i).number == (i : Int) && hEq (S i).payee (nameF c (chainF S i))
def ruleB (R : Nat → Nat → Int) (n : Nat) (S : Nat → Spend) (i : Nat) : Bool :=
  if i = 0 then decide ((rcX R n (S i)).value > 0) else (rcX R n (S i)).value == 0 && (rcX R n (S i)).depth == 0
def linkB (S : Nat → Spend) (i : Nat) : Bool := if i = 0 then true else passB S (i - 1) (S i).coin && decide (¬ (S i).time < (S (i - 1)).time)
def stepC (b : Bas) (R : Nat → Nat → Int) (n : Nat) (S : Nat → Spend) (i : Nat) : Bool := verd b R n (S i) && (ruleB R n S i && linkB S i)
def chvB (b : Bas) (R : Nat → Nat → Int) (n : Nat) (h : Chn) : Bool := validB b && (decide (h.n ≤ 8) && allI (stepC b R n (chnS h)) (h.n + 1))
theorem chv_1 {b : Bas} {R : Nat → Nat → Int} {n : Nat} {h : Chn} (g : validB b = false ∨ (h.n : Int) > 8) : chvB b R n h = false := by
  unfold chvB
  rcases g with g | g
  · rw [g]; rfl
  · rw [decide_eq_false (by omega : ¬ h.n ≤ 8)]; simp
theorem chv_2 {b : Bas} {R : Nat → Nat → Int} {n : Nat} {h : Chn} {i : Nat} (hi : i < h.n + 1) (g : stepC b R n (chnS h) i = false) : chvB b R n h = false := by
  unfold chvB
  rw [allI_f hi g]; simp
theorem chv_3 {b : Bas} {R : Nat → Nat → Int} {n : Nat} {h : Chn} (g : validB b = true) (g2 : h.n ≤ 8) (g3 : ∀ i, i < h.n + 1 → stepC b R n (chnS h) i = true) : chvB b R n h = true := by
  unfold chvB
  rw [g, decide_eq_true g2, allI_t g3]; rfl
theorem stepC_1 {b : Bas} {R : Nat → Nat → Int} {n : Nat} {S : Nat → Spend} {i : Nat} (h : ¬ fnS R n (S i) ≥ 0 ∨ vfy b (rcX R n (S i)) (S i) = false) : stepC b R n S i = false := by
  unfold stepC verd
  rcases h with h | h
  · rw [decide_eq_false h]; rfl
  · rw [h, Bool.and_false]; rfl
theorem rule_f {R : Nat → Nat → Int} {n : Nat} {S : Nat → Spend} {i : Nat} (h : ((i : Int) = 0 ∧ (rcX R n (S i)).value ≤ 0) ∨ ((i : Int) > 0 ∧ (¬ (rcX R n (S i)).value = 0 ∨ ¬ (rcX R n (S i)).depth = 0))) : ruleB R n S i = false := by
  unfold ruleB
  rcases h with ⟨h, g⟩ | ⟨h, g⟩
  · rw [if_pos (by omega)]; exact decide_eq_false (by omega)
  · rw [if_neg (by omega)]
    rcases g with g | g
    · rw [show ((rcX R n (S i)).value == 0) = false by simpa using g]; rfl
    · rw [show ((rcX R n (S i)).depth == 0) = false by simpa using g]; simp
theorem rule_t {R : Nat → Nat → Int} {n : Nat} {S : Nat → Spend} {i : Nat} (h : ¬ (i : Int) = 0 ∨ ¬ (rcX R n (S i)).value ≤ 0) (h2 : ¬ (i : Int) > 0 ∨ ((rcX R n (S i)).value = 0 ∧ (rcX R n (S i)).depth = 0)) : ruleB R n S i = true := by
  unfold ruleB
  by_cases e : i = 0
  · rw [if_pos e]; exact decide_eq_true (by omega)
  · rw [if_neg e]
    have g : (rcX R n (S i)).value = 0 ∧ (rcX R n (S i)).depth = 0 := by
      rcases h2 with h2 | h2
      · omega
      · exact h2
    rw [g.1, g.2]; rfl
theorem stepC_2 {b : Bas} {R : Nat → Nat → Int} {n : Nat} {S : Nat → Spend} {i : Nat} (h : ruleB R n S i = false) : stepC b R n S i = false := by
  unfold stepC
  rw [h]; simp
theorem link_f {S : Nat → Spend} {i : Nat} (h0 : (i : Int) > 0) (h : passB S (i - 1) (S i).coin = false ∨ (S i).time < (S (i - 1)).time) : linkB S i = false := by
  unfold linkB
  rw [if_neg (by omega)]
  rcases h with h | h
  · rw [h]; rfl
  · rw [decide_eq_false (by omega)]; simp
theorem link_t {S : Nat → Spend} {i : Nat} (h : ¬ (i : Int) > 0 ∨ (passB S (i - 1) (S i).coin = true ∧ ¬ (S i).time < (S (i - 1)).time)) : linkB S i = true := by
  unfold linkB
  by_cases e : i = 0
  · rw [if_pos e]
  · rw [if_neg e]
    have g : passB S (i - 1) (S i).coin = true ∧ ¬ (S i).time < (S (i - 1)).time := by
      rcases h with h | h
      · omega
      · exact h
    rw [g.1, decide_eq_true g.2]; rfl
theorem stepC_3 {b : Bas} {R : Nat → Nat → Int} {n : Nat} {S : Nat → Spend} {i : Nat} (h : linkB S i = false) : stepC b R n S i = false := by
  unfold stepC
  rw [h]; simp
theorem stepC_t {b : Bas} {R : Nat → Nat → Int} {n : Nat} {S : Nat → Spend} {i : Nat} (h : fnS R n (S i) ≥ 0 ∧ vfy b (rcX R n (S i)) (S i) = true) (h2 : ruleB R n S i = true) (h3 : linkB S i = true) : stepC b R n S i = true := by
  unfold stepC verd
  rw [decide_eq_true h.1, h.2, h2, h3]; rfl
theorem chainF_by (S : Nat → Spend) (n : Nat) : byB (chainF S n) 32 := by
  by_cases h : n = 0
  · rw [chainF_0 h]; exact zero_by
  · rw [chainF_1 h]; exact fun i _ => sha_by _ _ i
end Go.Sp

namespace Go.Proofs.YtolcfdcoidpieaaGreatDoor
open Go Go.Am Go.Sp
set_option maxRecDepth 100000

abbrev kHK10 : List AV := [AV.agg [Zi 0, Zi 0, Zi 0, Zi 0, Zi 0, Zi 0, Zi 0, Zi 0, Zi 0, Zi 0, Zi 0], AV.bool false]
theorem passes_c (S : Nat → Spend) (k : Nat) (c : Coin) (hk : k ≤ 300) (hs : ∀ i, i < k → (S i).Sm) (hr : byB c.root 32) : Pure Tryz.prog gl0 38 [.isl 80 (k + 1) fun i j => atL (S i).cells j, c.av] (.bool (passB S k c)) := by
  have c1 := fun (m : Nat) (hm : m = k) => digestOf_c S m (by omega) (fun i hi => hs i (by omega))
  have c2 := fun (m : Nat) => name_c c (chainF S m) hr (chainF_by S m)
  have e : IntKind.wrap .i64 (((k + 1 : Nat) : Int) - 1) = k := by rw [wI (by omega) (by omega)]; omega
  have e2 : Int.toNat (IntKind.wrap .i64 (((k + 1 : Nat) : Int) - 1)) = k := by rw [e]; rfl
  refine pure_sk (own := ow0) Tryz.func38 (by kernel_rfl) mixed (by kernel_rfl)
    (let y0 : Nat := (Int.toNat (IntKind.wrap IntKind.i64 ((↑(k + 1) : Int) - 1))); (.req ((0 : Int) ≤ IntKind.wrap IntKind.i64 ((↑(k + 1) : Int) - 1) ∧ IntKind.wrap IntKind.i64 ((↑(k + 1) : Int) - 1) < (↑(k + 1) : Int)) (.req ((((S y0).15 == IntKind.wrap IntKind.i64 ((↑(k + 1) : Int) - 1)) == true) = true → (0 : Int) ≤ IntKind.wrap IntKind.i64 ((↑(k + 1) : Int) - 1) ∧ IntKind.wrap IntKind.i64 ((↑(k + 1) : Int) - 1) ≤ (↑(k + 1) : Int)) (.sc (((S y0).15 == IntKind.wrap IntKind.i64 ((↑(k + 1) : Int) - 1)) == true) 64 ([AV.isl 80 y0 fun (i j : Nat) => atL (Spend.cells (S (i + 0))) j]) (AV.agg (u8c (chainF S y0))) (.sc (((S y0).15 == IntKind.wrap IntKind.i64 ((↑(k + 1) : Int) - 1)) == true) 49 ([AV.agg (Coin.cells c), AV.agg (u8c (chainF S y0))]) (AV.agg (u8c (nameF c (chainF S y0)))) (.out (AV.bool ((S y0).15 == IntKind.wrap IntKind.i64 ((↑(k + 1) : Int) - 1) && ((S y0).13 0 == nameF c (chainF S y0) 0 && ((S y0).13 1 == nameF c (chainF S y0) 1 && ((S y0).13 2 == nameF c (chainF S y0) 2 && ((S y0).13 3 == nameF c (chainF S y0) 3 && ((S y0).13 4 == nameF c (chainF S y0) 4 && ((S y0).13 5 == nameF c (chainF S y0) 5 && ((S y0).13 6 == nameF c (chainF S y0) 6 && ((S y0).13 7 == nameF c (chainF S y0) 7 && ((S y0).13 8 == nameF c (chainF S y0) 8 && ((S y0).13 9 == nameF c (chainF S y0) 9 && ((S y0).13 10 == nameF c (chainF S y0) 10 && ((S y0).13 11 == nameF c (chainF S y0) 11 && ((S y0).13 12 == nameF c (chainF S y0) 12 && ((S y0).13 13 == nameF c (chainF S y0) 13 && ((S y0).13 14 == nameF c (chainF S y0) 14 && ((S y0).13 15 == nameF c (chainF S y0) 15 && ((S y0).13 16 == nameF c (chainF S y0) 16 && ((S y0).13 17 == nameF c (chainF S y0) 17 && ((S y0).13 18 == nameF c (chainF S y0) 18 && ((S y0).13 19 == nameF c (chainF S y0) 19 && ((S y0).13 20 == nameF c (chainF S y0) 20 && ((S y0).13 21 == nameF c (chainF S y0) 21 && ((S y0).13 22 == nameF c (chainF S y0) 22 && ((S y0).13 23 == nameF c (chainF S y0) 23 && ((S y0).13 24 == nameF c (chainF S y0) 24 && ((S y0).13 25 == nameF c (chainF S y0) 25 && ((S y0).13 26 == nameF c (chainF S y0) 26 && ((S y0).13 27 == nameF c (chainF S y0) 27 && ((S y0).13 28 == nameF c (chainF S y0) 28 && ((S y0).13 29 == nameF c (chainF S y0) 29 && ((S y0).13 30 == nameF c (chainF S y0) 30 && ((S y0).13 31 == nameF c (chainF S y0) 31 && true)))))))))))))))))))))))))))))))))) [] (AV.bool (passB S k c)) []))))))
    (by kernel_rfl) ?_
  refine k_req (by (rw [e]; omega)) ?_
  refine k_req (by (rw [e]; omega)) ?_
  refine k_scg (fun h2 => c1 (Int.toNat (IntKind.wrap IntKind.i64 ((↑(k + 1) : Int) - (1 : Int)))) (e2)) ?_
  refine k_scg (fun h3 => c2 (Int.toNat (IntKind.wrap IntKind.i64 ((↑(k + 1) : Int) - (1 : Int))))) ?_
  exact k_out (Ent.of_eq (congrArg _ (by rw [e2, e]; rfl)))

theorem passesM_c (S : Nat → Spend) (m : Nat) (c : Coin) (hm : 1 ≤ m ∧ m ≤ 301) (hs : ∀ i, i < m → (S i).Sm) (hr : byB c.root 32) : Pure Tryz.prog gl0 38 [.isl 80 m fun i j => atL (S i).cells j, c.av] (.bool (passB S (m - 1) c)) := by
  have h := passes_c S (m - 1) c (by omega) (fun i hi => hs i (by omega)) hr
  rw [show m - 1 + 1 = m by omega] at h
  exact h

theorem rpasses_c (S : Nat → Spend) (n k : Nat) (c : Coin) (hn : n ≤ 302) (hk : k < n) (hs : ∀ i, i < k → (S i).Sm) (hr : byB c.root 32) : Pure Tryz.prog gl0 42 [.isl 80 n fun i j => atL (S i).cells j, .int .i64 k, c.av] (.bool (passB S k c)) := by
  have c1 := rdigests_c S k (by omega) hs
  have c2 := rname_c c (chainF S k) hr (chainF_by S k)
  refine pure_sk (own := ow0) Tryz.func42 (by kernel_rfl) mixed (by kernel_rfl)
    (let y0 : Nat := (Int.toNat (↑k : Int)); (.req ((0 : Int) ≤ (↑k : Int) ∧ (↑k : Int) < (↑n : Int)) (.req ((((S y0).15 == (↑k : Int)) == true) = true → (0 : Int) ≤ (↑k : Int) ∧ (↑k : Int) ≤ (↑n : Int)) (.sc (((S y0).15 == (↑k : Int)) == true) 55 ([AV.isl 80 y0 fun (i j : Nat) => atL (Spend.cells (S (i + 0))) j]) (AV.agg (u8c (chainF S k))) (.sc (((S y0).15 == (↑k : Int)) == true) 54 ([AV.agg (Coin.cells c), AV.agg (u8c (chainF S k))]) (AV.agg (u8c (nameF c (chainF S k)))) (.out (AV.bool ((S y0).15 == (↑k : Int) && ((S y0).13 0 == nameF c (chainF S k) 0 && ((S y0).13 1 == nameF c (chainF S k) 1 && ((S y0).13 2 == nameF c (chainF S k) 2 && ((S y0).13 3 == nameF c (chainF S k) 3 && ((S y0).13 4 == nameF c (chainF S k) 4 && ((S y0).13 5 == nameF c (chainF S k) 5 && ((S y0).13 6 == nameF c (chainF S k) 6 && ((S y0).13 7 == nameF c (chainF S k) 7 && ((S y0).13 8 == nameF c (chainF S k) 8 && ((S y0).13 9 == nameF c (chainF S k) 9 && ((S y0).13 10 == nameF c (chainF S k) 10 && ((S y0).13 11 == nameF c (chainF S k) 11 && ((S y0).13 12 == nameF c (chainF S k) 12 && ((S y0).13 13 == nameF c (chainF S k) 13 && ((S y0).13 14 == nameF c (chainF S k) 14 && ((S y0).13 15 == nameF c (chainF S k) 15 && ((S y0).13 16 == nameF c (chainF S k) 16 && ((S y0).13 17 == nameF c (chainF S k) 17 && ((S y0).13 18 == nameF c (chainF S k) 18 && ((S y0).13 19 == nameF c (chainF S k) 19 && ((S y0).13 20 == nameF c (chainF S k) 20 && ((S y0).13 21 == nameF c (chainF S k) 21 && ((S y0).13 22 == nameF c (chainF S k) 22 && ((S y0).13 23 == nameF c (chainF S k) 23 && ((S y0).13 24 == nameF c (chainF S k) 24 && ((S y0).13 25 == nameF c (chainF S k) 25 && ((S y0).13 26 == nameF c (chainF S k) 26 && ((S y0).13 27 == nameF c (chainF S k) 27 && ((S y0).13 28 == nameF c (chainF S k) 28 && ((S y0).13 29 == nameF c (chainF S k) 29 && ((S y0).13 30 == nameF c (chainF S k) 30 && ((S y0).13 31 == nameF c (chainF S k) 31 && true)))))))))))))))))))))))))))))))))) [] (AV.bool (passB S k c)) []))))))
    (by kernel_rfl) ?_
  refine k_req (by omega) ?_
  refine k_req (fun hr => by have hr := (cnd_eqt_t cnd_beq_t) hr; omega) ?_
  refine k_scg (fun h2 => c1) ?_
  refine k_scg (fun h3 => c2) ?_
  exact k_out (Ent.refl _)

theorem rpassesZ_c (S : Nat → Spend) (n : Nat) (z : Int) (c : Coin) (hn : n ≤ 302) (hz : 0 ≤ z ∧ z < n) (hs : ∀ i, i < n → (S i).Sm) (hr : byB c.root 32) : Pure Tryz.prog gl0 42 [.isl 80 n fun i j => atL (S i).cells j, .int .i64 z, c.av] (.bool (passB S z.toNat c)) := by
  have e : z = (z.toNat : Int) := by omega
  have h := rpasses_c S n z.toNat c hn (by omega) (fun i hi => hs i (by omega)) hr
  rw [← e] at h
  exact h

theorem vrecord_c (R : Nat → Nat → Int) (n : Nat) (s : Spend) (hn : n ≤ 1000) : Pure Tryz.prog gl0 36 [rcl n R, s.coin.av] (.tup [(rcX R n s).av, .bool (decide (fnS R n s ≥ 0))]) := by
  have c1 := vfind_c R n s.bank s.epoch s.denom hn
  refine pure_sk (own := ow0) Tryz.func36 (by kernel_rfl) mixed (by kernel_rfl)
    (let y0 : Nat := (Int.toNat (fnI R n s.1 s.2 s.3)); let y1 : AV := (AV.tup [Rcd.av (rcX R n s), AV.bool (decide (fnS R n s ≥ 0))]); (.sc (true) 69 ([AV.isl 11 n fun (i j : Nat) => Zi (R i j), Zi s.1, Zi s.2, Zi s.3]) (Zi (fnI R n (Spend.bank s) (Spend.epoch s) (Spend.denom s))) (.br (decide (fnI R n s.1 s.2 s.3 < 0)) (.out (AV.tup kHK10) [] y1 []) (.req ((0 : Int) ≤ fnI R n s.1 s.2 s.3 ∧ fnI R n s.1 s.2 s.3 < (↑n : Int)) (.out (AV.tup [AV.agg [Zi (R y0 0), Zi (R y0 1), Zi (R y0 2), Zi (R y0 3), Zi (R y0 4), Zi (R y0 5), Zi (R y0 6), Zi (R y0 7), Zi (R y0 8), Zi (R y0 9), Zi (R y0 10)], AV.bool true]) [] y1 [])))))
    (by kernel_rfl) ?_
  refine k_sc (c1) ?_
  refine k_br (fun h1 => ?_) (fun h1 => ?_)
  · have g1 := cnd_dec_t h1
    exact k_out (Ent.of_eq (rec_no (s := s) g1))
  · have g1 := cnd_dec_f h1
    refine k_req (fnI_lt g1) ?_
    exact k_out (Ent.of_eq (rec_ok (s := s) g1))

theorem vrrecord_c (R : Nat → Nat → Int) (n : Nat) (s : Spend) (hn : n ≤ 1000) : Pure Tryz.prog gl0 40 [rcl n R, s.coin.av] (.tup [(rcX R n s).av, .bool (decide (fnS R n s ≥ 0))]) := by
  have c1 := rvfind_c R n s.bank s.epoch s.denom hn
  refine pure_sk (own := ow0) Tryz.func40 (by kernel_rfl) mixed (by kernel_rfl)
    (let y0 : Nat := (Int.toNat (fnI R n s.1 s.2 s.3)); let y1 : AV := (AV.tup [Rcd.av (rcX R n s), AV.bool (decide (fnS R n s ≥ 0))]); (.sc (true) 79 ([AV.isl 11 n fun (i j : Nat) => Zi (R i j), Zi s.1, Zi s.2, Zi s.3]) (Zi (fnI R n (Spend.bank s) (Spend.epoch s) (Spend.denom s))) (.br (decide (fnI R n s.1 s.2 s.3 < 0)) (.out (AV.tup kHK10) [] y1 []) (.req ((0 : Int) ≤ fnI R n s.1 s.2 s.3 ∧ fnI R n s.1 s.2 s.3 < (↑n : Int)) (.out (AV.tup [AV.agg [Zi (R y0 0), Zi (R y0 1), Zi (R y0 2), Zi (R y0 3), Zi (R y0 4), Zi (R y0 5), Zi (R y0 6), Zi (R y0 7), Zi (R y0 8), Zi (R y0 9), Zi (R y0 10)], AV.bool true]) [] y1 [])))))
    (by kernel_rfl) ?_
  refine k_sc (c1) ?_
  refine k_br (fun h1 => ?_) (fun h1 => ?_)
  · have g1 := cnd_dec_t h1
    exact k_out (Ent.of_eq (rec_no (s := s) g1))
  · have g1 := cnd_dec_f h1
    refine k_req (fnI_lt g1) ?_
    exact k_out (Ent.of_eq (rec_ok (s := s) g1))

end Go.Proofs.YtolcfdcoidpieaaGreatDoor

namespace Go.Proofs.YtolcfdcoidpieaaGreatDoor
open Go Go.Am Go.Sp
set_option maxRecDepth 100000

theorem wm1 {x : Nat} (h : 0 < x) (h2 : x ≤ 400) : Int.toNat (IntKind.wrap .i64 ((x : Int) - 1)) = x - 1 := by
  rw [wI (by omega) (by omega)]; omega

theorem cverify_c (b : Bas) (R : Nat → Nat → Int) (n : Nat) (h : Chn) (hn : n ≤ 1000) (hm : h.n ≤ 300) (hw : b.gr.W) (hs : ∀ i, i < h.n + 1 → (chnS h i).Sm) : Pure Tryz.prog gl0 9 [b.av, rcl n R, h.av] (.bool (chvB b R n h)) := by
  have c0 := bvalid_c b hw
  have c1 := spends_c h (by omega)
  have c2 := fun i => vrecord_c R n (chnS h i) hn
  have c3 := fun i hi => vfy_c b (rcX R n (chnS h i)) (chnS h i) hw (hs i hi).by_.root (hs i hi).by_.payee (hs i hi).path (by have := (hs i hi).np; omega) (by have := (hs i hi).nl; omega)
  have c4 := fun m i (hm : 1 ≤ m ∧ m ≤ h.n + 1) (hi : i < h.n + 1) => passesM_c (chnS h) m (chnS h i).coin (by omega) (fun j hj => hs j (by omega)) (hs i hi).by_.root
  refine pure_sk (own := ow0) Tryz.func9 (by kernel_rfl) mixed (by kernel_rfl)
    (let y0 : List (Option Ob) := [some ⟨6, 1, true, Rep.lst [Bas.cells b]⟩]; let y1 : AV := (AV.bool (chvB b R n h)); (.sc (true) 34 ([AV.agg (Bas.cells b)]) (AV.bool (validB b)) (.br (!validB b || decide ((↑h.2 : Int) > 8)) (.out (AV.bool false) [] y1 []) (.dc (true) 35 ([AV.agg (Chn.cells h)]) (AV.isl 80 (Chn.n h + 1) fun (i j : Nat) => atL (Spend.cells (chnS h i)) j) (.loop ({ x : Nat // x ≤ Chn.n h + 1 ∧ (fun (x : Nat) => ∀ (j : Nat), j < x → stepC b R n (chnS h) j = true) x }) (fun (x : { x : Nat // x ≤ Chn.n h + 1 ∧ (fun (x : Nat) => ∀ (j : Nat), j < x → stepC b R n (chnS h) j = true) x }) => mkSt [1, 2, 3, 7, 14, 23, 24, 25] [AV.isl 11 n fun (i j : Nat) => Zi (R i j), AV.agg (Chn.cells h), AV.own 0 6 0 0 6, AV.isl 80 (h.2 + 1) fun (i j : Nat) => atL (Spend.cells (chnS h i)) j, AV.bool !validB b, AV.isl 80 (h.2 + 1) fun (i j : Nat) => atL (Spend.cells (chnS h i)) j, Zi (↑(h.2 + 1) : Int), Zi (↑(x.1) : Int)] y0) (fun (x : { x : Nat // x ≤ Chn.n h + 1 ∧ (fun (x : Nat) => ∀ (j : Nat), j < x → stepC b R n (chnS h) j = true) x }) => Chn.n h + 1 - x.1) (⟨0, ⟨Nat.zero_le (Chn.n h + 1), fun (j : Nat) (hj : j < 0) => absurd hj (Nat.not_lt_zero j)⟩⟩) ([1, 2, 3, 7, 14, 23, 24, 25]) ([0]) ([AV.isl 11 n fun (i j : Nat) => Zi (R i j), AV.agg (Chn.cells h), AV.own 0 6 0 0 6, AV.isl 80 (h.2 + 1) fun (i j : Nat) => atL (Spend.cells (chnS h i)) j, AV.bool !validB b, AV.isl 80 (h.2 + 1) fun (i j : Nat) => atL (Spend.cells (chnS h i)) j, Zi (↑(h.2 + 1) : Int), Zi 0]) (y0) (fun x4 => (.br (decide ((↑x4.1 : Int) < (↑(h.2 + 1) : Int))) (.req ((0 : Int) ≤ (↑x4.1 : Int) ∧ (↑x4.1 : Int) < (↑(h.2 + 1) : Int)) (.sc (true) 36 ([AV.isl 11 n fun (i j : Nat) => Zi (R i j), AV.agg (Zi (chnS h (Int.toNat (↑(x4.1) : Int))).1 :: Zi (chnS h (Int.toNat (↑(x4.1) : Int))).2 :: Zi (chnS h (Int.toNat (↑(x4.1) : Int))).3 :: Zi (chnS h (Int.toNat (↑(x4.1) : Int))).4 :: Zi (chnS h (Int.toNat (↑(x4.1) : Int))).5 :: (u8c (chnS h (Int.toNat (↑(x4.1) : Int))).6 ++ [Zi (chnS h (Int.toNat (↑(x4.1) : Int))).7, Zi (chnS h (Int.toNat (↑(x4.1) : Int))).8, Zi (chnS h (Int.toNat (↑(x4.1) : Int))).9, Zi (chnS h (Int.toNat (↑(x4.1) : Int))).10]))]) (AV.tup [Rcd.av (rcX R n (chnS h (Int.toNat (↑(x4.1) : Int)))), AV.bool (decide (fnS R n (chnS h (Int.toNat (↑(x4.1) : Int))) ≥ 0))]) (.sc ((!decide (fnS R n (chnS h (Int.toNat (↑x4.1 : Int))) ≥ 0)) == false) 37 ([AV.agg (Bas.cells b), AV.agg (Rcd.cells (rcX R n (chnS h (Int.toNat (↑(x4.1) : Int))))), AV.agg (Spend.cells (chnS h (Int.toNat (↑(x4.1) : Int))))]) (AV.bool (vfy b (rcX R n (chnS h (Int.toNat (↑(x4.1) : Int)))) (chnS h (Int.toNat (↑(x4.1) : Int))))) (.br (!decide (fnS R n (chnS h (Int.toNat (↑x4.1 : Int))) ≥ 0) || !vfy b (rcX R n (chnS h (Int.toNat (↑x4.1 : Int)))) (chnS h (Int.toNat (↑x4.1 : Int)))) (.out (AV.bool false) [] y1 []) (.br ((↑x4.1 : Int) == 0 && decide ((rcX R n (chnS h (Int.toNat (↑(x4.1) : Int)))).4 ≤ 0) || decide ((↑x4.1 : Int) > 0) && ((rcX R n (chnS h (Int.toNat (↑(x4.1) : Int)))).4 != 0 || (rcX R n (chnS h (Int.toNat (↑(x4.1) : Int)))).5 != 0)) (.out (AV.bool false) [] y1 []) (.req ((decide ((↑x4.1 : Int) > 0) == true) = true → (0 : Int) ≤ (↑x4.1 : Int) ∧ (↑x4.1 : Int) ≤ (↑(h.2 + 1) : Int)) (.sc (decide ((↑x4.1 : Int) > 0) == true) 38 ([AV.isl 80 (Int.toNat (↑x4.1 : Int)) fun (i j : Nat) => atL (Spend.cells (chnS h (i + 0))) j, AV.agg (Zi (chnS h (Int.toNat (↑(x4.1) : Int))).1 :: Zi (chnS h (Int.toNat (↑(x4.1) : Int))).2 :: Zi (chnS h (Int.toNat (↑(x4.1) : Int))).3 :: Zi (chnS h (Int.toNat (↑(x4.1) : Int))).4 :: Zi (chnS h (Int.toNat (↑(x4.1) : Int))).5 :: (u8c (chnS h (Int.toNat (↑(x4.1) : Int))).6 ++ [Zi (chnS h (Int.toNat (↑(x4.1) : Int))).7, Zi (chnS h (Int.toNat (↑(x4.1) : Int))).8, Zi (chnS h (Int.toNat (↑(x4.1) : Int))).9, Zi (chnS h (Int.toNat (↑(x4.1) : Int))).10]))]) (AV.bool (passB (chnS h) (Int.toNat (↑x4.1 : Int) - 1) (Spend.coin (chnS h (Int.toNat (↑(x4.1) : Int)))))) (.req ((decide ((↑x4.1 : Int) > 0) == true && (!passB (chnS h) (Int.toNat (↑x4.1 : Int) - 1) (Spend.coin (chnS h (Int.toNat (↑x4.1 : Int))))) == false) = true → (0 : Int) ≤ IntKind.wrap IntKind.i64 ((↑x4.1 : Int) - 1) ∧ IntKind.wrap IntKind.i64 ((↑x4.1 : Int) - 1) < (↑(h.2 + 1) : Int)) (.br (decide ((↑x4.1 : Int) > 0) && (!passB (chnS h) (Int.toNat (↑x4.1 : Int) - 1) (Spend.coin (chnS h (Int.toNat (↑x4.1 : Int)))) || decide ((chnS h (Int.toNat (↑(x4.1) : Int))).14 < (chnS h (Int.toNat (IntKind.wrap IntKind.i64 ((↑(x4.1) : Int) - 1)))).14))) (.out (AV.bool false) [] y1 []) (.again (Again 0 (fun (x : { x : Nat // x ≤ Chn.n h + 1 ∧ (fun (x : Nat) => ∀ (j : Nat), j < x → stepC b R n (chnS h) j = true) x }) => mkSt [1, 2, 3, 7, 14, 23, 24, 25] [AV.isl 11 n fun (i j : Nat) => Zi (R i j), AV.agg (Chn.cells h), AV.own 0 6 0 0 6, AV.isl 80 (h.2 + 1) fun (i j : Nat) => atL (Spend.cells (chnS h i)) j, AV.bool !validB b, AV.isl 80 (h.2 + 1) fun (i j : Nat) => atL (Spend.cells (chnS h i)) j, Zi (↑(h.2 + 1) : Int), Zi (↑(x.1) : Int)] y0) (fun (x : { x : Nat // x ≤ Chn.n h + 1 ∧ (fun (x : Nat) => ∀ (j : Nat), j < x → stepC b R n (chnS h) j = true) x }) => Chn.n h + 1 - x.1) x4) ([1, 2, 3, 7, 14, 23, 24, 25]) ([0]) ([AV.isl 11 n fun (i j : Nat) => Zi (R i j), AV.agg (Chn.cells h), AV.own 0 6 0 0 6, AV.isl 80 (h.2 + 1) fun (i j : Nat) => atL (Spend.cells (chnS h i)) j, AV.bool !validB b, AV.isl 80 (h.2 + 1) fun (i j : Nat) => atL (Spend.cells (chnS h i)) j, Zi (↑(h.2 + 1) : Int), Zi (IntKind.wrap IntKind.i64 ((↑x4.1 : Int) + 1))]) (y0))))))))))) (.out (AV.bool true) [] y1 []))))))))
    (by kernel_rfl) ?_
  refine k_sc (c0) ?_
  refine k_br (fun h1 => ?_) (fun h1 => ?_)
  · have g1 := (cnd_or_t (cnd_not_t cnd_id_f) cnd_dec_t) h1
    exact k_out (Ent.of_eq (congrArg _ (chv_1 g1).symm))
  · have g1 := (cnd_or_f (cnd_not_f cnd_id_t) cnd_dec_f) h1
    refine k_dc (c1) ?_
    refine k_loop (fun _ hs => hs.le (⟨.refl _, .refl _, .refl _, .refl _, .refl _, .refl _, .refl _, .refl _, trivial⟩) (⟨.refl _, trivial⟩)) (fun x4 => ?_)
    try (have q4 := x4.2; dsimp only at q4)
    refine k_br (fun h5 => ?_) (fun h5 => ?_)
    · have g5 := cnd_dec_t h5
      refine k_req (by omega) ?_
      refine k_sc (c2 (Int.toNat (↑(x4.1) : Int))) ?_
      refine k_scg (fun h8 => c3 (Int.toNat (↑(x4.1) : Int)) (by omega)) ?_
      refine k_br (fun h9 => ?_) (fun h9 => ?_)
      · have g9 := (cnd_or_t (cnd_not_t cnd_dec_f) (cnd_not_t cnd_id_f)) h9
        try simp only [Int.toNat_natCast] at g9
        exact k_out (Ent.of_eq (congrArg _ (chv_2 (i := x4.1) (by omega) (stepC_1 g9)).symm))
      · have g9 := (cnd_or_f (cnd_not_f cnd_dec_t) (cnd_not_f cnd_id_t)) h9
        try simp only [Int.toNat_natCast] at g9
        refine k_br (fun h11 => ?_) (fun h11 => ?_)
        · have g11 := (cnd_or_t (cnd_and_t cnd_beq_t cnd_dec_t) (cnd_and_t cnd_dec_t (cnd_or_t cnd_bne_t cnd_bne_t))) h11
          try simp only [Int.toNat_natCast] at g11
          exact k_out (Ent.of_eq (congrArg _ (chv_2 (i := x4.1) (by omega) (stepC_2 (rule_f g11))).symm))
        · have g11 := (cnd_or_f (cnd_and_f cnd_beq_f cnd_dec_f) (cnd_and_f cnd_dec_f (cnd_or_f cnd_bne_f cnd_bne_f))) h11
          try simp only [Int.toNat_natCast] at g11
          refine k_req (fun hr => by have hr := (cnd_eqt_t cnd_dec_t) hr; omega) ?_
          refine k_scg (fun h14 => c4 (Int.toNat (↑x4.1 : Int)) (Int.toNat (↑(x4.1) : Int)) ((by have h := of_decide_eq_true (eq_of_beq h14); simp only [Int.toNat_natCast]; first | omega | (rw [wI (by omega) (by omega)]; omega))) (by omega)) ?_
          refine k_req ((fun hr => by have hr := (cnd_and_t (cnd_eqt_t cnd_dec_t) (cnd_eqf_t (cnd_not_f cnd_id_t))) hr; have h0 := hr.1; first | omega | (rw [wI (by omega) (by omega)]; omega))) ?_
          refine k_br (fun h16 => ?_) (fun h16 => ?_)
          · have g16 := (cnd_and_t cnd_dec_t (cnd_or_t (cnd_not_t cnd_id_f) cnd_dec_t)) h16
            try simp only [Int.toNat_natCast] at g16
            exact k_out (Ent.of_eq (congrArg _ (chv_2 (i := x4.1) (by omega) (stepC_3 (link_f g16.1 (by have e := wm1 (x := x4.1) (by omega) (by omega); simp only [e] at g16; exact g16.2)))).symm))
          · have g16 := (cnd_and_f cnd_dec_f (cnd_or_f (cnd_not_f cnd_id_t) cnd_dec_f)) h16
            try simp only [Int.toNat_natCast] at g16
            exact k_again (⟨x4.1 + 1, by omega, fun j hj => by rcases Nat.lt_succ_iff_lt_or_eq.1 hj with hj | rfl; (· exact x4.2.2 j hj); (· exact stepC_t g9 (rule_t g11.1 g11.2) (link_t (by by_cases hx : 0 < x4.1; (· have e := wm1 (x := x4.1) hx (by omega); simp only [e] at g16; exact g16); (· exact .inl (by omega)))))⟩) (fun _ hs => hs.le (⟨.refl _, .refl _, .refl _, .refl _, .refl _, .refl _, .refl _, inc_ent (by omega), trivial⟩) (⟨.refl _, trivial⟩)) (by dsimp only; omega)
    · have g5 := cnd_dec_f h5
      exact k_out (Ent.of_eq (congrArg _ (chv_3 g1.1 (by omega) (fun i hi => x4.2.2 i (by omega))).symm))

theorem rcverify_c (b : Bas) (R : Nat → Nat → Int) (n : Nat) (h : Chn) (hn : n ≤ 1000) (hm : h.n ≤ 300) (hw : b.gr.W) (hs : ∀ i, i < h.n + 1 → (chnS h i).Sm) : Pure Tryz.prog gl0 10 [b.av, rcl n R, h.av] (.bool (chvB b R n h)) := by
  have c0 := r11valid_c b hw
  have c1 := rspends_c h (by omega)
  have c2 := fun i => vrrecord_c R n (chnS h i) hn
  have c3 := fun i hi => rvfy_c b (rcX R n (chnS h i)) (chnS h i) hw (hs i hi).by_.root (hs i hi).by_.payee (hs i hi).path (by have := (hs i hi).np; omega) (by have := (hs i hi).nl; omega)
  have c4 := fun (z : Int) i (hz : 0 ≤ z ∧ z < (h.n + 1 : Nat)) (hi : i < h.n + 1) => rpassesZ_c (chnS h) (h.n + 1) z (chnS h i).coin (by omega) hz (fun j hj => hs j (by omega)) (hs i hi).by_.root
  refine pure_sk (own := ow0) Tryz.func10 (by kernel_rfl) mixed (by kernel_rfl)
    (let y0 : List (Option Ob) := [some ⟨6, 1, true, Rep.lst [Bas.cells b]⟩]; let y1 : AV := (AV.bool (chvB b R n h)); (.sc (true) 19 ([AV.agg (Bas.cells b)]) (AV.bool (validB b)) (.br (!validB b || decide ((↑h.2 : Int) > 8)) (.out (AV.bool false) [] y1 []) (.dc (true) 39 ([AV.agg (Chn.cells h)]) (AV.isl 80 (Chn.n h + 1) fun (i j : Nat) => atL (Spend.cells (chnS h i)) j) (.loop ({ x : Nat // x ≤ Chn.n h + 1 ∧ (fun (x : Nat) => ∀ (j : Nat), j < x → stepC b R n (chnS h) j = true) x }) (fun (x : { x : Nat // x ≤ Chn.n h + 1 ∧ (fun (x : Nat) => ∀ (j : Nat), j < x → stepC b R n (chnS h) j = true) x }) => mkSt [1, 2, 3, 7, 13, 14, 8] [AV.isl 11 n fun (i j : Nat) => Zi (R i j), AV.agg (Chn.cells h), AV.own 0 6 0 0 6, AV.isl 80 (h.2 + 1) fun (i j : Nat) => atL (Spend.cells (chnS h i)) j, AV.bool !validB b, AV.bool !validB b, Zi (↑(x.1) : Int)] y0) (fun (x : { x : Nat // x ≤ Chn.n h + 1 ∧ (fun (x : Nat) => ∀ (j : Nat), j < x → stepC b R n (chnS h) j = true) x }) => Chn.n h + 1 - x.1) (⟨0, ⟨Nat.zero_le (Chn.n h + 1), fun (j : Nat) (hj : j < 0) => absurd hj (Nat.not_lt_zero j)⟩⟩) ([1, 2, 3, 7, 13, 14, 8]) ([0]) ([AV.isl 11 n fun (i j : Nat) => Zi (R i j), AV.agg (Chn.cells h), AV.own 0 6 0 0 6, AV.isl 80 (h.2 + 1) fun (i j : Nat) => atL (Spend.cells (chnS h i)) j, AV.bool !validB b, AV.bool !validB b, Zi 0]) (y0) (fun x4 => (.br (decide ((↑x4.1 : Int) < (↑(h.2 + 1) : Int))) (.req ((0 : Int) ≤ (↑x4.1 : Int) ∧ (↑x4.1 : Int) < (↑(h.2 + 1) : Int)) (.sc (true) 40 ([AV.isl 11 n fun (i j : Nat) => Zi (R i j), AV.agg (Zi (chnS h (Int.toNat (↑(x4.1) : Int))).1 :: Zi (chnS h (Int.toNat (↑(x4.1) : Int))).2 :: Zi (chnS h (Int.toNat (↑(x4.1) : Int))).3 :: Zi (chnS h (Int.toNat (↑(x4.1) : Int))).4 :: Zi (chnS h (Int.toNat (↑(x4.1) : Int))).5 :: (u8c (chnS h (Int.toNat (↑(x4.1) : Int))).6 ++ [Zi (chnS h (Int.toNat (↑(x4.1) : Int))).7, Zi (chnS h (Int.toNat (↑(x4.1) : Int))).8, Zi (chnS h (Int.toNat (↑(x4.1) : Int))).9, Zi (chnS h (Int.toNat (↑(x4.1) : Int))).10]))]) (AV.tup [Rcd.av (rcX R n (chnS h (Int.toNat (↑(x4.1) : Int)))), AV.bool (decide (fnS R n (chnS h (Int.toNat (↑(x4.1) : Int))) ≥ 0))]) (.req (((!decide (fnS R n (chnS h (Int.toNat (↑x4.1 : Int))) ≥ 0)) == false) = true → (0 : Int) ≤ (↑x4.1 : Int) ∧ (↑x4.1 : Int) < (↑(h.2 + 1) : Int)) (.sc ((!decide (fnS R n (chnS h (Int.toNat (↑x4.1 : Int))) ≥ 0)) == false) 41 ([AV.agg (Bas.cells b), AV.agg (Rcd.cells (rcX R n (chnS h (Int.toNat (↑(x4.1) : Int))))), AV.agg (Spend.cells (chnS h (Int.toNat (↑(x4.1) : Int))))]) (AV.bool (vfy b (rcX R n (chnS h (Int.toNat (↑(x4.1) : Int)))) (chnS h (Int.toNat (↑(x4.1) : Int))))) (.br (!decide (fnS R n (chnS h (Int.toNat (↑x4.1 : Int))) ≥ 0) || !vfy b (rcX R n (chnS h (Int.toNat (↑x4.1 : Int)))) (chnS h (Int.toNat (↑x4.1 : Int)))) (.out (AV.bool false) [] y1 []) (.br ((↑x4.1 : Int) == 0 && decide ((rcX R n (chnS h (Int.toNat (↑(x4.1) : Int)))).4 ≤ 0) || decide ((↑x4.1 : Int) > 0) && ((rcX R n (chnS h (Int.toNat (↑(x4.1) : Int)))).4 != 0 || (rcX R n (chnS h (Int.toNat (↑(x4.1) : Int)))).5 != 0)) (.out (AV.bool false) [] y1 []) (.req ((decide ((↑x4.1 : Int) > 0) == true) = true → (0 : Int) ≤ (↑x4.1 : Int) ∧ (↑x4.1 : Int) < (↑(h.2 + 1) : Int)) (.sc (decide ((↑x4.1 : Int) > 0) == true) 42 ([AV.isl 80 (h.2 + 1) fun (i j : Nat) => atL (Spend.cells (chnS h i)) j, Zi (IntKind.wrap IntKind.i64 ((↑x4.1 : Int) - 1)), AV.agg (Zi (chnS h (Int.toNat (↑(x4.1) : Int))).1 :: Zi (chnS h (Int.toNat (↑(x4.1) : Int))).2 :: Zi (chnS h (Int.toNat (↑(x4.1) : Int))).3 :: Zi (chnS h (Int.toNat (↑(x4.1) : Int))).4 :: Zi (chnS h (Int.toNat (↑(x4.1) : Int))).5 :: (u8c (chnS h (Int.toNat (↑(x4.1) : Int))).6 ++ [Zi (chnS h (Int.toNat (↑(x4.1) : Int))).7, Zi (chnS h (Int.toNat (↑(x4.1) : Int))).8, Zi (chnS h (Int.toNat (↑(x4.1) : Int))).9, Zi (chnS h (Int.toNat (↑(x4.1) : Int))).10]))]) (AV.bool (passB (chnS h) (Int.toNat (IntKind.wrap IntKind.i64 ((↑x4.1 : Int) - 1))) (Spend.coin (chnS h (Int.toNat (↑(x4.1) : Int)))))) (.req ((decide ((↑x4.1 : Int) > 0) == true && (!passB (chnS h) (Int.toNat (IntKind.wrap IntKind.i64 ((↑x4.1 : Int) - 1))) (Spend.coin (chnS h (Int.toNat (↑x4.1 : Int))))) == false) = true → (0 : Int) ≤ (↑x4.1 : Int) ∧ (↑x4.1 : Int) < (↑(h.2 + 1) : Int)) (.req ((decide ((↑x4.1 : Int) > 0) == true && (!passB (chnS h) (Int.toNat (IntKind.wrap IntKind.i64 ((↑x4.1 : Int) - 1))) (Spend.coin (chnS h (Int.toNat (↑x4.1 : Int))))) == false) = true → (0 : Int) ≤ IntKind.wrap IntKind.i64 ((↑x4.1 : Int) - 1) ∧ IntKind.wrap IntKind.i64 ((↑x4.1 : Int) - 1) < (↑(h.2 + 1) : Int)) (.br (decide ((↑x4.1 : Int) > 0) && (!passB (chnS h) (Int.toNat (IntKind.wrap IntKind.i64 ((↑x4.1 : Int) - 1))) (Spend.coin (chnS h (Int.toNat (↑x4.1 : Int)))) || decide ((chnS h (Int.toNat (↑(x4.1) : Int))).14 < (chnS h (Int.toNat (IntKind.wrap IntKind.i64 ((↑(x4.1) : Int) - 1)))).14))) (.out (AV.bool false) [] y1 []) (.again (Again 0 (fun (x : { x : Nat // x ≤ Chn.n h + 1 ∧ (fun (x : Nat) => ∀ (j : Nat), j < x → stepC b R n (chnS h) j = true) x }) => mkSt [1, 2, 3, 7, 13, 14, 8] [AV.isl 11 n fun (i j : Nat) => Zi (R i j), AV.agg (Chn.cells h), AV.own 0 6 0 0 6, AV.isl 80 (h.2 + 1) fun (i j : Nat) => atL (Spend.cells (chnS h i)) j, AV.bool !validB b, AV.bool !validB b, Zi (↑(x.1) : Int)] y0) (fun (x : { x : Nat // x ≤ Chn.n h + 1 ∧ (fun (x : Nat) => ∀ (j : Nat), j < x → stepC b R n (chnS h) j = true) x }) => Chn.n h + 1 - x.1) x4) ([1, 2, 3, 7, 13, 14, 8]) ([0]) ([AV.isl 11 n fun (i j : Nat) => Zi (R i j), AV.agg (Chn.cells h), AV.own 0 6 0 0 6, AV.isl 80 (h.2 + 1) fun (i j : Nat) => atL (Spend.cells (chnS h i)) j, AV.bool !validB b, AV.bool !validB b, Zi (IntKind.wrap IntKind.i64 ((↑x4.1 : Int) + 1))]) (y0))))))))))))) (.out (AV.bool true) [] y1 []))))))))
    (by kernel_rfl) ?_
  refine k_sc (c0) ?_
  refine k_br (fun h1 => ?_) (fun h1 => ?_)
  · have g1 := (cnd_or_t (cnd_not_t cnd_id_f) cnd_dec_t) h1
    exact k_out (Ent.of_eq (congrArg _ (chv_1 g1).symm))
  · have g1 := (cnd_or_f (cnd_not_f cnd_id_t) cnd_dec_f) h1
    refine k_dc (c1) ?_
    refine k_loop (fun _ hs => hs.le (⟨.refl _, .refl _, .refl _, .refl _, .refl _, .refl _, .refl _, trivial⟩) (⟨.refl _, trivial⟩)) (fun x4 => ?_)
    try (have q4 := x4.2; dsimp only at q4)
    refine k_br (fun h5 => ?_) (fun h5 => ?_)
    · have g5 := cnd_dec_t h5
      refine k_req (by omega) ?_
      refine k_sc (c2 (Int.toNat (↑(x4.1) : Int))) ?_
      refine k_req (fun hr => by have hr := (cnd_eqf_t (cnd_not_f cnd_dec_t)) hr; omega) ?_
      refine k_scg (fun h9 => c3 (Int.toNat (↑(x4.1) : Int)) (by omega)) ?_
      refine k_br (fun h10 => ?_) (fun h10 => ?_)
      · have g10 := (cnd_or_t (cnd_not_t cnd_dec_f) (cnd_not_t cnd_id_f)) h10
        try simp only [Int.toNat_natCast] at g10
        exact k_out (Ent.of_eq (congrArg _ (chv_2 (i := x4.1) (by omega) (stepC_1 g10)).symm))
      · have g10 := (cnd_or_f (cnd_not_f cnd_dec_t) (cnd_not_f cnd_id_t)) h10
        try simp only [Int.toNat_natCast] at g10
        refine k_br (fun h12 => ?_) (fun h12 => ?_)
        · have g12 := (cnd_or_t (cnd_and_t cnd_beq_t cnd_dec_t) (cnd_and_t cnd_dec_t (cnd_or_t cnd_bne_t cnd_bne_t))) h12
          try simp only [Int.toNat_natCast] at g12
          exact k_out (Ent.of_eq (congrArg _ (chv_2 (i := x4.1) (by omega) (stepC_2 (rule_f g12))).symm))
        · have g12 := (cnd_or_f (cnd_and_f cnd_beq_f cnd_dec_f) (cnd_and_f cnd_dec_f (cnd_or_f cnd_bne_f cnd_bne_f))) h12
          try simp only [Int.toNat_natCast] at g12
          refine k_req (fun hr => by have hr := (cnd_eqt_t cnd_dec_t) hr; omega) ?_
          refine k_scg (fun h15 => c4 (IntKind.wrap IntKind.i64 ((↑x4.1 : Int) - (1 : Int))) (Int.toNat (↑(x4.1) : Int)) ((by have h := of_decide_eq_true (eq_of_beq h15); simp only [Int.toNat_natCast]; first | omega | (rw [wI (by omega) (by omega)]; omega))) (by omega)) ?_
          refine k_req ((fun hr => by have hr := (cnd_and_t (cnd_eqt_t cnd_dec_t) (cnd_eqf_t (cnd_not_f cnd_id_t))) hr; have h0 := hr.1; first | omega | (rw [wI (by omega) (by omega)]; omega))) ?_
          refine k_req ((fun hr => by have hr := (cnd_and_t (cnd_eqt_t cnd_dec_t) (cnd_eqf_t (cnd_not_f cnd_id_t))) hr; have h0 := hr.1; first | omega | (rw [wI (by omega) (by omega)]; omega))) ?_
          refine k_br (fun h18 => ?_) (fun h18 => ?_)
          · have g18 := (cnd_and_t cnd_dec_t (cnd_or_t (cnd_not_t cnd_id_f) cnd_dec_t)) h18
            try simp only [Int.toNat_natCast] at g18
            exact k_out (Ent.of_eq (congrArg _ (chv_2 (i := x4.1) (by omega) (stepC_3 (link_f g18.1 (by have e := wm1 (x := x4.1) (by omega) (by omega); simp only [e] at g18; exact g18.2)))).symm))
          · have g18 := (cnd_and_f cnd_dec_f (cnd_or_f (cnd_not_f cnd_id_t) cnd_dec_f)) h18
            try simp only [Int.toNat_natCast] at g18
            exact k_again (⟨x4.1 + 1, by omega, fun j hj => by rcases Nat.lt_succ_iff_lt_or_eq.1 hj with hj | rfl; (· exact x4.2.2 j hj); (· exact stepC_t g10 (rule_t g12.1 g12.2) (link_t (by by_cases hx : 0 < x4.1; (· have e := wm1 (x := x4.1) hx (by omega); simp only [e] at g18; exact g18); (· exact .inl (by omega)))))⟩) (fun _ hs => hs.le (⟨.refl _, .refl _, .refl _, .refl _, .refl _, .refl _, inc_ent (by omega), trivial⟩) (⟨.refl _, trivial⟩)) (by dsimp only; omega)
    · have g5 := cnd_dec_f h5
      exact k_out (Ent.of_eq (congrArg _ (chv_3 g1.1 (by omega) (fun i hi => x4.2.2 i (by omega))).symm))

end Go.Proofs.YtolcfdcoidpieaaGreatDoor

namespace Go.Proofs.YtolcfdcoidpieaaGreatDoor
open Go Go.Am Go.Sp
set_option maxRecDepth 100000

end Go.Proofs.YtolcfdcoidpieaaGreatDoor

namespace Go.Sp
open Go Go.Am
end Go.Sp

namespace Go.Proofs.YtolcfdcoidpieaaGreatDoor
open Go Go.Am Go.Sp
set_option maxRecDepth 100000

end Go.Proofs.YtolcfdcoidpieaaGreatDoor

namespace Go.Proofs.YtolcfdcoidpieaaGreatDoor
open Go Go.Am Go.Sp
set_option maxRecDepth 100000

theorem checks_w (b : Bas) (R : Nat → Nat → Int) (n : Nat) (h : Chn) (V : Bool) (hh : h.n < 9223372036854775808)
    (c2 : n ≤ 1000 → longK h = false → Pure Tryz.prog gl0 9 [b.av, rcl n R, h.av] (.bool V))
    (c3 : n ≤ 1000 → longK h = false → Pure Tryz.prog gl0 10 [b.av, rcl n R, h.av] (.bool V)) : Pure Tryz.prog gl0 3 [b.av, rcl n R, h.av] (.bool true) := by
  have c1 := few35_1 h hh
  refine pure_sk (own := ow0) Tryz.func3 (by kernel_rfl) mixed (by kernel_rfl)
    (let y0 : List AV := [AV.agg (Bas.cells b), AV.isl 11 n fun (i j : Nat) => Zi (R i j), AV.agg (Chn.cells h)]; (.sc (true) 7 ([]) (AV.bool true) (.sc (true) 8 ([AV.isl 81 1 fun (r k : Nat) => atL (List.getD [Chn.cells h] (r + 0) []) k]) (AV.bool !longK h) (.br (!!longK h || decide ((↑n : Int) > 60)) (.sc (true) 7 ([]) (AV.bool true) (.out (AV.bool true) [] (AV.bool true) [])) (.sc (true) 9 (y0) (AV.bool V) (.sc (true) 10 (y0) (AV.bool V) (.out (AV.bool (V == V)) [] (AV.bool true) [])))))))
    (by kernel_rfl) ?_
  refine k_sc (awake35_c) ?_
  refine k_sc (c1) ?_
  refine k_br (fun h2 => ?_) (fun h2 => ?_)
  · have g2 := (cnd_or_t (cnd_not_t (cnd_not_f cnd_id_t)) cnd_dec_t) h2
    refine k_sc (awake35_c) ?_
    exact k_out (Ent.of_eq rfl)
  · have g2 := (cnd_or_f (cnd_not_f (cnd_not_t cnd_id_f)) cnd_dec_f) h2
    refine k_sc (c2 (by omega) (by exact g2.1)) ?_
    refine k_sc (c3 (by omega) (by exact g2.1)) ?_
    exact k_out (Ent.of_eq (by simp))

theorem chainChecks_c (b : Bas) (R : Nat → Nat → Int) (n : Nat) (h : Chn) (hw : b.gr.W) (hh : h.n < 9223372036854775808) (hb : ∀ i, i < h.n + 1 → (chnS h i).SB) : Pure Tryz.prog gl0 3 [b.av, rcl n R, h.av] (.bool true) :=
  checks_w b R n h (chvB b R n h) hh (fun hn hl => cverify_c b R n h hn (longK_sm hl hb).1 hw (longK_sm hl hb).2) (fun hn hl => rcverify_c b R n h hn (longK_sm hl hb).1 hw (longK_sm hl hb).2)

end Go.Proofs.YtolcfdcoidpieaaGreatDoor

namespace Go.Sp
open Go Go.Am

def u8s (n : Nat) : List CT := List.replicate n (.int .u8)
def spendT : List CT := [.int .i64, .int .i64, .int .i64, .int .i64, .int .i64] ++ u8s 32 ++ [.int .i64, .int .i64, .int .i64, .int .i64, .int .i64, .int .i64] ++ u8s 32 ++ [.int .i64, .int .i64, .sl [.int .i64, .int .i64, .int .i64], .int .i64, .sl (u8s 32)]

def spendOf (g : Nat → AV) : Spend :=
  { bank := intOfAV (g 0), epoch := intOfAV (g 1), denom := intOfAV (g 2), depth := intOfAV (g 3), a := intOfAV (g 4), root := fun j => intOfAV (g (5 + j)),
    z := intOfAV (g 37), sa := intOfAV (g 38), sb := intOfAV (g 39), r := intOfAV (g 40), level := intOfAV (g 41), index := intOfAV (g 42), payee := fun j => intOfAV (g (43 + j)),
    time := intOfAV (g 75), number := intOfAV (g 76), nl := islN (g 77), lf := fun i j => intOfAV (islF (g 77) i j), pidx := intOfAV (g 78), np := islN (g 79), pf := fun i j => intOfAV (islF (g 79) i j) }

end Go.Sp

namespace Go.Sp
open Go Go.Am

def i64s (n : Nat) : List CT := List.replicate n (.int .i64)
def chnT : List CT := spendT ++ [.sl spendT]
def chnOf (g : Nat → AV) : Chn := ⟨spendOf g, islN (g 80), fun i => spendOf (islF (g 80) i)⟩
end Go.Sp

namespace Go.Sp
open Go Go.Am
def basOf (g : Nat → AV) : Bas := ⟨⟨intOfAV (g 0), intOfAV (g 1), intOfAV (g 2)⟩, intOfAV (g 3), intOfAV (g 4), intOfAV (g 5)⟩
theorem cell_i64 {a : AV} (h : CellOk (.int .i64) a) : -9223372036854775808 ≤ intOfAV a ∧ intOfAV a ≤ 9223372036854775807 := by
  obtain ⟨h1, h2⟩ := (Lit.wf_int_iff _ _).1 h.int_inv
  exact ⟨Int.le_trans (by decide) h1, Int.le_trans h2 (by decide)⟩
theorem cell_u8 {a : AV} (h : CellOk (.int .u8) a) : 0 ≤ intOfAV a ∧ intOfAV a < 256 := by
  obtain ⟨h1, h2⟩ := (Lit.wf_int_iff _ _).1 h.int_inv
  exact ⟨Int.le_trans (by decide) h1, Int.lt_of_le_of_lt h2 (by decide)⟩
theorem u8_by {ts : List CT} {g : Nat → AV} {k n : Nat} (h : ∀ (j : Nat) c, ts[j]? = some c → CellOk c (g j)) (ht : ∀ j, j < n → ts[k + j]? = some (.int .u8)) : byB (fun j => intOfAV (g (k + j))) n := fun i hi => cell_u8 (h (k + i) _ (ht i hi))
theorem basOf_w {g : Nat → AV} (h : ∀ (j : Nat) c, (i64s 6)[j]? = some c → CellOk c (g j)) : (basOf g).gr.W :=
  ⟨(cell_i64 (h 0 _ rfl)).2, (cell_i64 (h 1 _ rfl)).2⟩
def spA : List CT := [.int .i64, .int .i64, .int .i64, .int .i64, .int .i64]
def spB : List CT := [.int .i64, .int .i64, .int .i64, .int .i64, .int .i64, .int .i64]
def spC : List CT := [.int .i64, .int .i64, .sl [.int .i64, .int .i64, .int .i64], .int .i64, .sl (u8s 32)]
theorem spendT_root : ∀ j, j < 32 → spendT[5 + j]? = some (.int .u8) := fun j hj => by
  show (((spA ++ u8s 32) ++ spB) ++ u8s 32 ++ spC)[5 + j]? = _
  rw [List.append_assoc, List.append_assoc, List.getElem?_append_left (by simp only [spA, u8s, List.length_append, List.length_replicate, List.length_cons, List.length_nil]; omega),
    List.getElem?_append_right (by show 5 ≤ _; omega)]
  unfold u8s
  rw [List.getElem?_replicate, if_pos (by show 5 + j - 5 < 32; omega)]
theorem spendT_payee : ∀ j, j < 32 → spendT[43 + j]? = some (.int .u8) := fun j hj => by
  show (((spA ++ u8s 32) ++ spB) ++ u8s 32 ++ spC)[43 + j]? = _
  have e : ((spA ++ u8s 32) ++ spB).length = 43 := by simp [spA, spB, u8s]
  rw [List.append_assoc, List.getElem?_append_right (by omega), e, List.getElem?_append_left (by simp only [u8s, List.length_replicate]; omega)]
  unfold u8s
  rw [List.getElem?_replicate, if_pos (by omega)]
theorem spend_by {g : Nat → AV} (h : ∀ (j : Nat) c, spendT[j]? = some c → CellOk c (g j)) : (spendOf g).By := ⟨u8_by (k := 5) h spendT_root, u8_by (k := 43) h spendT_payee⟩
end Go.Sp

namespace Go.Sp
open Go Go.Am
end Go.Sp

namespace Go.Sp
open Go Go.Am
theorem u8s_at {k : Nat} (h : k < 32) : (u8s 32)[k]? = some (.int .u8) := by
  unfold u8s
  rw [List.getElem?_replicate, if_pos h]
theorem spend_sb {g : Nat → AV} (h : ∀ (j : Nat) c, spendT[j]? = some c → CellOk c (g j)) : (spendOf g).SB :=
  ⟨spend_by h, fun j hj k hk => cell_u8 ((h 79 (.sl (u8s 32)) rfl).sl_inv.2 j k (.int .u8) hj (u8s_at hk))⟩
theorem chn_sb {g : Nat → AV} (h : ∀ (j : Nat) c, chnT[j]? = some c → CellOk c (g j)) : ∀ i, i < (chnOf g).n + 1 → (chnS (chnOf g) i).SB := fun i hi => by
  cases i with
  | zero => exact spend_sb fun j c hj => h j c (by
      show (spendT ++ [.sl spendT])[j]? = _
      rw [List.getElem?_append_left (List.getElem?_eq_some_iff.1 hj).1]
      exact hj)
  | succ i => exact spend_sb fun j c hj => (h 80 (.sl spendT) rfl).sl_inv.2 i j c (Nat.lt_of_succ_lt_succ hi) hj
theorem chn_len {g : Nat → AV} (h : ∀ (j : Nat) c, chnT[j]? = some c → CellOk c (g j)) : (chnOf g).n < 9223372036854775808 :=
  Nat.lt_of_le_of_lt ((h 80 (.sl spendT) rfl).sl_inv).1 (by decide)
end Go.Sp

namespace Go.Am
open Go

theorem laid_at {P : Program} {w : World} : ∀ {laid : List (String × DataW Unit)} {ps : List MemPlace}, DataW.LaidVars P w laid ps → ∀ {i : Nat} {n : String} {d : DataW Unit}, laid[i]? = some (n, d) →
    ∃ g t cs fuel p, P.globalNamed n = some g ∧ (P.globals[g]?).map (·.type) = some t ∧ w.var? P n = some cs ∧ DataW.trod (fun _ => ()) P w 0 (fun _ => true) false fuel t cs.toList = some (d, p)
  | [], _, _, i, n, d, h => by simp at h
  | (n', d') :: r, ps, ⟨g, t, cs, fuel, p, q, h1, h2, h3, h4, _, _⟩, 0, n, d, h => by
    simp only [List.getElem?_cons_zero, Option.some.injEq, Prod.mk.injEq] at h
    obtain ⟨rfl, rfl⟩ := h
    exact ⟨g, t, cs, fuel, p, h1, h2, h3, h4⟩
  | (n', d') :: r, ps, ⟨g, t, cs, fuel, p, q, h1, h2, h3, h4, h5, _⟩, i + 1, n, d, h => laid_at h5 (by simpa using h)

def arrOk (P : Program) (g n : Nat) (k : IntKind) : Bool :=
  match (P.globals[g]?).map (·.type) with
  | some t =>
    match P.underlying t with
    | some (.array m e) =>
      match P.underlying e with
      | some (.int k') => Nat.beq m n && Nat.beq (P.cellsOf e) 1 && decide (k' = k)
      | _ => false
    | _ => false
  | none => false
theorem arrOk_inv {P : Program} {g n : Nat} {k : IntKind} (h : arrOk P g n k = true) : ∃ t e, (P.globals[g]?).map (·.type) = some t ∧ P.underlying t = some (.array n e) ∧ P.underlying e = some (.int k) ∧ P.cellsOf e = 1 := by
  unfold arrOk at h
  split at h
  · rename_i t ht
    split at h
    · rename_i m e hu
      split at h
      · rename_i k' he
        simp only [Bool.and_eq_true, decide_eq_true_eq, Nat.beq_eq] at h
        obtain ⟨⟨rfl, h2⟩, rfl⟩ := h
        exact ⟨t, e, ht, hu, he, h2⟩
      · cases h
    · cases h
  · cases h

theorem glob_ints {P : Program} {w : World} {β : Book} {laid : List (String × DataW Unit)} (h : laidMetH P laid w) (hp : (laid.all fun x => x.2.handleName?.isNone) = true) (i : Nat) (name : String) {g n : Nat}
    {k : IntKind} {F : Nat → Int} (hl : laid[i]? = some (name, .agg ((List.range n).map fun j => .lit (.int k (F j))))) (hg : P.globalNamed name = some g) (ho : arrOk P g n k = true) (hn : 0 < n) (hb : β.free g) : Rel β w (.ipt n fun j => .int k (F j)) (.pointer (some ⟨g, 0, none⟩)) := by
  obtain ⟨t, e, ht, hu, he, hc⟩ := arrOk_inv ho
  rw [MakeChecks.laidMetH_plain _ _ _ hp] at h
  obtain ⟨ps, hv, _, _⟩ := h
  obtain ⟨g', t', cs, fuel, p, h1, h2, h3, h4⟩ := laid_at hv hl
  obtain rfl := Option.some.inj (hg.symm.trans h1)
  obtain rfl := Option.some.inj (ht.symm.trans h2)
  obtain ⟨xs, m, rfl, hx, hlen, hxl, hel⟩ := DataW.trod_array hu h4
  simp only [Prod.mk.injEq, DataW.agg.injEq] at hx
  obtain ⟨hx, _⟩ := hx
  have cell : ∀ j, j < n → cs[j]? = some (.int k (F j)) := fun j hj => by
    have hj' := hel j hj
    rw [hc, Nat.mul_one, List.getElem?_eq_getElem (by omega : j < xs.length)] at hj'
    obtain ⟨v, e1, e2, _⟩ := DataW.trod_int he hj'
    have e3 : (xs.map (·.1))[j]? = some (.lit (.int k v)) := by rw [List.getElem?_map, List.getElem?_eq_getElem (by omega : j < xs.length), e2]; rfl
    rw [← hx] at e3
    simp only [List.getElem?_map, List.getElem?_range hj, Option.map_some, Option.some.injEq, DataW.lit.injEq, Lit.int.injEq, true_and] at e3
    subst e3
    have e4 : (List.take 1 (List.drop j cs.toList))[0]? = some (.int k (F j)) := by rw [e1]; rfl
    rw [List.getElem?_take_of_lt (by decide), List.getElem?_drop, Nat.add_zero] at e4
    simpa using e4
  refine .ipt (fun j => .int k (F j)) hn hb (fun j hj => ?_) (fun _ _ => rfl) (fun _ _ => .int) (fun _ _ => .int)
  rw [World.var?_cell hg h3]
  simpa using cell j hj
end Go.Am
