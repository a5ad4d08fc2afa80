/- Part of the proof: FV15, Glt, FV16, FV17, Prv, Acc, Prv2, Acc2, Acc3, FR6, SpOpen, SpOpenP, Args, Args3, EnGlob. -/
import Derived.Test.YtdaaddkipdmajaaGreatDoorM7
import Derived.Test.YtdaaddkipdmajaaGreatDoorProg
import Derived.Test.YtdaaddkipdmajaaGreatDoorM6
import Derived.Test.YtdaaddkipdmajaaGreatDoorM3
import Derived.Test.YtdaaddkipdmajaaGreatDoorM5
import Derived.Test.YtdaaddkipdmajaaGreatDoorM4
import Derived.DataShut
import Derived.OpenShut
import Derived.FnData
import Derived.MakeChecks
namespace Go.Proofs.YtdaaddkipdmajaaGreatDoor
open Go Go.Am Go.Sp
set_option maxRecDepth 100000

theorem rtop_c (s : Spend) (n : Nat) (h1 : n = 2 ^ dpN s) (hd : dpN s ≤ 5) : Pure Tryz.prog gl0 76 [hsl n (fun i => leafF (lbF s i)), .int .i64 0, .int .i64 0] (.agg (u8c (topF s))) := by
  subst h1
  have h := tnode_c (dpN s) hd (fun i => leafF (lbF s i)) (fun i _ => leafF_by _) (dpN s) 0 (Nat.le_refl _) (by rw [Nat.sub_self]; decide)
  rwa [Nat.sub_self] at h

theorem rvfy_c (b : Bas) (r : Rcd) (s : Spend) (hw : b.gr.W) (hr : byB s.root 32) (hp : byB s.payee 32) (hf : ∀ k, k < s.np → byB (s.pf k) 32) (hn : s.np ≤ 1000000) (hl : s.nl ≤ 1000) : Pure Tryz.prog gl0 18 [b.av, r.av, s.av] (.bool (vfy b r s)) := by
  have c0 := r11valid_c b hw
  have c1 := rcval_c b r s.coin hw hr
  have c2 := rnode_c s.depth s.level s.index
  have c3 := rctx_c s.cxt
  have c9 := fun h => rspan_c s.depth s.level s.index h
  have c4 := rchal_c b s.coin s.level s.index s.cxt hr hp
  have c5 := fun x r1 r2 hv ha hk => rleaf_c b s.a (chS b s) x r1 r2 hv ha hk
  have c6 := fun n h1 => rhash_c n h1 (lbF s)
  have c7 := rtop_c s
  have c8 := fun h1 h2 h3 => rfol_c (topF s) s.pidx s.np s.pf hn h1 h2 h3 hf
  refine pure_sk (own := ow0) Tryz.func18 (by kernel_rfl) mixed (by kernel_rfl)
    (.sc (true) 19 ([AV.agg (Bas.cells b)]) (AV.bool (validB b)) (.sc ((!validB b) == false) 20 ([AV.agg (Bas.cells b), AV.agg (Rcd.cells r), AV.agg (Zi s.1 :: Zi s.2 :: Zi s.3 :: Zi s.4 :: Zi s.5 :: (u8c s.6 ++ [Zi s.7, Zi s.8, Zi s.9, Zi s.10]))]) (AV.bool (coinV b r (Spend.coin s))) (.sc ((!validB b || !coinV b r (Spend.coin s)) == false) 22 ([Zi s.4, AV.agg [Zi s.11, Zi s.12]]) (AV.bool (nodeB (Spend.depth s) (Spend.level s) (Spend.index s))) (.sc ((!validB b || !coinV b r (Spend.coin s) || !nodeB s.4 s.11 s.12) == false) 23 ([AV.agg (u8c s.13 ++ [Zi s.14, Zi s.15])]) (AV.bool (ctxB (Cxt.time (Spend.cxt s)) (Cxt.number (Spend.cxt s)))) (.br (!validB b || !coinV b r (Spend.coin s) || !nodeB s.4 s.11 s.12 || !ctxB s.14 s.15) (.out (AV.bool false) [] (AV.bool (vfy b r s)) []) (.sc (true) 63 ([Zi s.4, AV.agg [Zi s.11, Zi s.12]]) (AV.tup [Zi (spanA (Spend.depth s) (Spend.level s) (Spend.index s)), Zi (spanZ (Spend.depth s) (Spend.level s) (Spend.index s))]) (.br ((↑s.16 : Int) != IntKind.wrap IntKind.i64 (spanZ s.4 s.11 s.12 - spanA s.4 s.11 s.12) || s.18 != s.12 || (↑s.19 : Int) != s.11) (.out (AV.bool false) [] (AV.bool (vfy b r s)) []) (.sc (true) 47 ([AV.agg (Bas.cells b), AV.agg (Zi s.1 :: Zi s.2 :: Zi s.3 :: Zi s.4 :: Zi s.5 :: (u8c s.6 ++ [Zi s.7, Zi s.8, Zi s.9, Zi s.10])), AV.agg [Zi s.11, Zi s.12], AV.agg (u8c s.13 ++ [Zi s.14, Zi s.15])]) (Zi (chalN (Grp.q (Bas.gr b)) (Spend.coin s) (Spend.level s) (Spend.index s) (Spend.cxt s))) (.loop ({ x : Nat // x ≤ Spend.nl s ∧ (fun (x : Nat) => ∀ (j : Nat), j < x → okL b s j = true) x }) (fun (x : { x : Nat // x ≤ Spend.nl s ∧ (fun (x : Nat) => ∀ (j : Nat), j < x → okL b s j = true) x }) => mkSt [3, 5, 9, 10, 11] [AV.own (0) (6) (0) (0) (6), AV.own (1) (80) (0) (0) (80), Zi (chalN (Bas.gr b).2 (Spend.coin s) s.11 s.12 (Spend.cxt s)), AV.osl (2 : Nat) (1 : Nat) (0 : Nat) (x.1), Zi (↑(x.1) : Int)] [some ⟨6, 1, true, Rep.lst [Bas.cells b]⟩, some ⟨80, 1, true, Rep.lst [Spend.cells s]⟩, some ⟨(1 : Nat), x.1, true, Rep.fn fun (i x : Nat) => Zi (lbF s i)⟩]) (fun (x : { x : Nat // x ≤ Spend.nl s ∧ (fun (x : Nat) => ∀ (j : Nat), j < x → okL b s j = true) x }) => Spend.nl s - x.1) (⟨(0 : Nat), ⟨Nat.zero_le (Spend.nl s), fun (j : Nat) (hj : j < (0 : Nat)) => absurd hj (Nat.not_lt_zero j)⟩⟩) ([3, 5, 9, 10, 11]) ([0, 16, 882]) ([AV.own (0) (6) (0) (0) (6), AV.own (1) (80) (0) (0) (80), Zi (chalN (Bas.gr b).2 (Spend.coin s) s.11 s.12 (Spend.cxt s)), AV.nsl, Zi 0]) ([some ⟨6, 1, true, Rep.lst [Bas.cells b]⟩, some ⟨80, 1, true, Rep.lst [Spend.cells s]⟩, some ⟨1, 0, true, Rep.lst []⟩]) (fun x10 => (.br (decide ((↑x10.1 : Int) < (↑s.16 : Int))) (.req ((0 : Int) ≤ (↑x10.1 : Int) ∧ (↑x10.1 : Int) < (↑s.16 : Int)) (.sc (true) 74 ([AV.agg (Bas.cells b), Zi s.5, Zi (chalN (Bas.gr b).2 (Spend.coin s) s.11 s.12 (Spend.cxt s)), AV.agg [Zi (s.17 (Int.toNat (↑x10.1 : Int)) (0)), Zi (s.17 (Int.toNat (↑x10.1 : Int)) (1)), Zi (s.17 (Int.toNat (↑x10.1 : Int)) (2))]]) (AV.bool (leafB b (Spend.a s) (chS b s) (s.17 (Int.toNat (↑x10.1 : Int)) (0)) (s.17 (Int.toNat (↑x10.1 : Int)) (1)) (s.17 (Int.toNat (↑x10.1 : Int)) (2)))) (.br (!leafB b s.5 (chS b s) (s.17 (Int.toNat (↑x10.1 : Int)) (0)) (s.17 (Int.toNat (↑x10.1 : Int)) (1)) (s.17 (Int.toNat (↑x10.1 : Int)) (2))) (.out (AV.bool false) [] (AV.bool (vfy b r s)) []) (.loop ({ x : Nat // x ≤ x10.1 ∧ (fun (k : Nat) => ∀ (j : Nat), j < k → ¬lbF s j = lbF s (x10.1)) x }) (fun (x : { x : Nat // x ≤ x10.1 ∧ (fun (k : Nat) => ∀ (j : Nat), j < k → ¬lbF s j = lbF s (x10.1)) x }) => mkSt [3, 5, 9, 10, 11, 12] [AV.own (0) (6) (0) (0) (6), AV.own (1) (80) (0) (0) (80), Zi (chalN (Bas.gr b).2 (Spend.coin s) s.11 s.12 (Spend.cxt s)), AV.osl (2) (1) (0) x10.1, Zi (↑x10.1 : Int), Zi (↑(x.1) : Int)] [some ⟨6, 1, true, Rep.lst [Bas.cells b]⟩, some ⟨80, 1, true, Rep.lst [Spend.cells s]⟩, some ⟨1, x10.1, true, Rep.fn fun (i j : Nat) => Zi (lbF s i)⟩]) (fun (x : { x : Nat // x ≤ x10.1 ∧ (fun (k : Nat) => ∀ (j : Nat), j < k → ¬lbF s j = lbF s (x10.1)) x }) => x10.1 - x.1) (⟨(0 : Nat), ⟨Nat.zero_le (x10.1), fun (j : Nat) (hj : j < (0 : Nat)) => absurd hj (Nat.not_lt_zero j)⟩⟩) ([3, 5, 9, 10, 11, 12]) ([0, 1, 2]) ([AV.own (0) (6) (0) (0) (6), AV.own (1) (80) (0) (0) (80), Zi (chalN (Bas.gr b).2 (Spend.coin s) s.11 s.12 (Spend.cxt s)), AV.osl (2) (1) (0) x10.1, Zi (↑x10.1 : Int), Zi 0]) ([some ⟨6, 1, true, Rep.lst [Bas.cells b]⟩, some ⟨80, 1, true, Rep.lst [Spend.cells s]⟩, some ⟨1, x10.1, true, Rep.fn fun (i j : Nat) => Zi (lbF s i)⟩]) (fun x16 => (.br (decide ((↑x16.1 : Int) < (↑x10.1 : Int))) (.req ((0 : Int) ≤ (↑x16.1 : Int) ∧ (↑x16.1 : Int) < (↑s.16 : Int)) (.req ((0 : Int) ≤ (↑x10.1 : Int) ∧ (↑x10.1 : Int) < (↑s.16 : Int)) (.br (s.17 (Int.toNat (↑x16.1 : Int)) (0) == s.17 (Int.toNat (↑x10.1 : Int)) (0)) (.out (AV.bool false) [] (AV.bool (vfy b r s)) []) (.again (Again (0) (fun (x : { x : Nat // x ≤ x10.1 ∧ (fun (k : Nat) => ∀ (j : Nat), j < k → ¬lbF s j = lbF s (x10.1)) x }) => mkSt [3, 5, 9, 10, 11, 12] [AV.own (0) (6) (0) (0) (6), AV.own (1) (80) (0) (0) (80), Zi (chalN (Bas.gr b).2 (Spend.coin s) s.11 s.12 (Spend.cxt s)), AV.osl (2) (1) (0) x10.1, Zi (↑x10.1 : Int), Zi (↑(x.1) : Int)] [some ⟨6, 1, true, Rep.lst [Bas.cells b]⟩, some ⟨80, 1, true, Rep.lst [Spend.cells s]⟩, some ⟨1, x10.1, true, Rep.fn fun (i j : Nat) => Zi (lbF s i)⟩]) (fun (x : { x : Nat // x ≤ x10.1 ∧ (fun (k : Nat) => ∀ (j : Nat), j < k → ¬lbF s j = lbF s (x10.1)) x }) => x10.1 - x.1) x16) ([3, 5, 9, 10, 11, 12]) ([0, 1, 2]) ([AV.own (0) (6) (0) (0) (6), AV.own (1) (80) (0) (0) (80), Zi (chalN (Bas.gr b).2 (Spend.coin s) s.11 s.12 (Spend.cxt s)), AV.osl (2) (1) (0) x10.1, Zi (↑x10.1 : Int), Zi (IntKind.wrap IntKind.i64 ((↑x16.1 : Int) + (1 : Int)))]) ([some ⟨6, 1, true, Rep.lst [Bas.cells b]⟩, some ⟨80, 1, true, Rep.lst [Spend.cells s]⟩, some ⟨1, x10.1, true, Rep.fn fun (i j : Nat) => Zi (lbF s i)⟩]))))) (.req ((0 : Int) ≤ (↑x10.1 : Int) ∧ (↑x10.1 : Int) < (↑s.16 : Int)) (.req ((x10.1 + 1) * 8 ≤ 140737488355328) (.again (Again (0) (fun (x : { x : Nat // x ≤ Spend.nl s ∧ (fun (x : Nat) => ∀ (j : Nat), j < x → okL b s j = true) x }) => mkSt [3, 5, 9, 10, 11] [AV.own (0) (6) (0) (0) (6), AV.own (1) (80) (0) (0) (80), Zi (chalN (Bas.gr b).2 (Spend.coin s) s.11 s.12 (Spend.cxt s)), AV.osl (2 : Nat) (1 : Nat) (0 : Nat) (x.1), Zi (↑(x.1) : Int)] [some ⟨6, 1, true, Rep.lst [Bas.cells b]⟩, some ⟨80, 1, true, Rep.lst [Spend.cells s]⟩, some ⟨(1 : Nat), x.1, true, Rep.fn fun (i x : Nat) => Zi (lbF s i)⟩]) (fun (x : { x : Nat // x ≤ Spend.nl s ∧ (fun (x : Nat) => ∀ (j : Nat), j < x → okL b s j = true) x }) => Spend.nl s - x.1) x10) ([3, 5, 9, 10, 11]) ([0, 1, 91]) ([AV.own (0) (6) (0) (0) (6), AV.own (1) (80) (0) (0) (80), Zi (chalN (Bas.gr b).2 (Spend.coin s) s.11 s.12 (Spend.cxt s)), AV.osl (2) (1) (0) (x10.1 + 1), Zi (IntKind.wrap IntKind.i64 ((↑x10.1 : Int) + (1 : Int)))]) ([some ⟨6, 1, true, Rep.lst [Bas.cells b]⟩, some ⟨80, 1, true, Rep.lst [Spend.cells s]⟩, some ⟨1, x10.1 + 1, true, Rep.fn fun (i j : Nat) => Zi (bif Nat.blt i x10.1 then lbF s i else intOfAV (atL [Zi (s.17 (Int.toNat (↑x10.1 : Int)) (0))] j))⟩])))))))))) (.dc (true) 62 ([AV.isl (1) x10.1 fun (r k : Nat) => Zi (lbF s (r + 0))]) (hsl x10.1 fun (i : Nat) => leafF (lbF s i)) (.sc (true) 76 ([AV.isl (32) x10.1 fun (i j : Nat) => Zb (leafF (lbF s i) j), Zi 0, Zi 0]) (AV.agg (u8c (topF s))) (.sc (true) 75 ([AV.agg (u8c (topF s)), AV.agg [Zi s.18, AV.isl (32) s.19 fun (i j : Nat) => Zb (s.20 i j)]]) (AV.agg (u8c (folF (topF s) (Spend.pidx s) (Spend.pf s) (Spend.np s)))) (.out (AV.bool (folF (topF s) s.18 s.20 s.19 (0) == s.6 (0) && (folF (topF s) s.18 s.20 s.19 (1) == s.6 (1) && (folF (topF s) s.18 s.20 s.19 (2) == s.6 (2) && (folF (topF s) s.18 s.20 s.19 (3) == s.6 (3) && (folF (topF s) s.18 s.20 s.19 (4) == s.6 (4) && (folF (topF s) s.18 s.20 s.19 (5) == s.6 (5) && (folF (topF s) s.18 s.20 s.19 (6) == s.6 (6) && (folF (topF s) s.18 s.20 s.19 (7) == s.6 (7) && (folF (topF s) s.18 s.20 s.19 (8) == s.6 (8) && (folF (topF s) s.18 s.20 s.19 (9) == s.6 (9) && (folF (topF s) s.18 s.20 s.19 (10) == s.6 (10) && (folF (topF s) s.18 s.20 s.19 (11) == s.6 (11) && (folF (topF s) s.18 s.20 s.19 (12) == s.6 (12) && (folF (topF s) s.18 s.20 s.19 (13) == s.6 (13) && (folF (topF s) s.18 s.20 s.19 (14) == s.6 (14) && (folF (topF s) s.18 s.20 s.19 (15) == s.6 (15) && (folF (topF s) s.18 s.20 s.19 (16) == s.6 (16) && (folF (topF s) s.18 s.20 s.19 (17) == s.6 (17) && (folF (topF s) s.18 s.20 s.19 (18) == s.6 (18) && (folF (topF s) s.18 s.20 s.19 (19) == s.6 (19) && (folF (topF s) s.18 s.20 s.19 (20) == s.6 (20) && (folF (topF s) s.18 s.20 s.19 (21) == s.6 (21) && (folF (topF s) s.18 s.20 s.19 (22) == s.6 (22) && (folF (topF s) s.18 s.20 s.19 (23) == s.6 (23) && (folF (topF s) s.18 s.20 s.19 (24) == s.6 (24) && (folF (topF s) s.18 s.20 s.19 (25) == s.6 (25) && (folF (topF s) s.18 s.20 s.19 (26) == s.6 (26) && (folF (topF s) s.18 s.20 s.19 (27) == s.6 (27) && (folF (topF s) s.18 s.20 s.19 (28) == s.6 (28) && (folF (topF s) s.18 s.20 s.19 (29) == s.6 (29) && (folF (topF s) s.18 s.20 s.19 (30) == s.6 (30) && (folF (topF s) s.18 s.20 s.19 (31) == s.6 (31) && true))))))))))))))))))))))))))))))))) [] (AV.bool (vfy b r s)) [])))))))))))))))
    (by kernel_rfl) ?_
  refine k_sc (c0) ?_
  refine k_scg (fun h1 => c1) ?_
  refine k_scg (fun h2 => c2) ?_
  refine k_scg (fun h3 => c3) ?_
  refine k_br (fun h4 => ?_) (fun h4 => ?_)
  · have g4 := (cnd_or_t (cnd_or_t (cnd_or_t (cnd_not_t cnd_id_f) (cnd_not_t cnd_id_f)) (cnd_not_t cnd_id_f)) (cnd_not_t cnd_id_f)) h4
    exact k_out (Ent.of_eq (congrArg _ (rhd_no g4).symm))
  · have g4 := (cnd_or_f (cnd_or_f (cnd_or_f (cnd_not_f cnd_id_t) (cnd_not_f cnd_id_t)) (cnd_not_f cnd_id_t)) (cnd_not_f cnd_id_t)) h4
    refine k_sc (c9 (g4.1.2)) ?_
    refine k_br (fun h7 => ?_) (fun h7 => ?_)
    · have g7 := (cnd_or_t (cnd_or_t cnd_bne_t cnd_bne_t) cnd_bne_t) h7
      exact k_out (Ent.of_eq (congrArg _ (rhd_no2 g4 g7).symm))
    · have g7 := (cnd_or_f (cnd_or_f cnd_bne_f cnd_bne_f) cnd_bne_f) h7
      refine k_sc (c4 (by (cases rhd_ok g4 g7; assumption)) (by (cases rhd_ok g4 g7; assumption))) ?_
      refine k_loop (fun _ hs => hs.le (by repeat' (first | exact trivial | (first | exact Ent.refl _ | exact inc_ent (by omega) | exact Ent.nil rfl | exact Ent.of_eq (congrArg (AV.osl _ _ _) (by first | omega | (dsimp only; omega))) | exact Ent.of_eq (congrArg (AV.int _) (by first | omega | (dsimp only; omega)))) | refine And.intro ?_ ?_)) (by repeat' (first | exact trivial | (first | exact ObEnt.refl _ | exact ObEnt.junk | exact ObEnt.zero | exact ObEnt.push rfl rfl | exact ObEnt.pushRow rfl | exact ObEnt.len (by omega) | exact ObEnt.row (by repeat' (first | exact trivial | (first | exact Ent.refl _ | exact inc_ent (by omega) | exact Ent.nil rfl | exact Ent.of_eq (congrArg (AV.osl _ _ _) (by first | omega | (dsimp only; omega))) | exact Ent.of_eq (congrArg (AV.int _) (by first | omega | (dsimp only; omega)))) | refine And.intro ?_ ?_))) | refine And.intro ?_ ?_))) (fun x10 => ?_)
      try (have q10 := x10.2; dsimp only at q10)
      refine k_br (fun h11 => ?_) (fun h11 => ?_)
      · have g11 := cnd_dec_t h11
        refine k_req (by omega) ?_
        refine k_sc (c5 (s.17 (Int.toNat (↑x10.1 : Int)) (0)) (s.17 (Int.toNat (↑x10.1 : Int)) (1)) (s.17 (Int.toNat (↑x10.1 : Int)) (2)) (by exact validB_iff.1 (rhd_ok g4 g7).v) (by (cases rhd_ok g4 g7; assumption)) (by (cases rhd_ok g4 g7; assumption))) ?_
        refine k_br (fun h14 => ?_) (fun h14 => ?_)
        · have g14 := (cnd_not_t cnd_id_f) h14
          try simp only [Int.toNat_natCast] at g14
          exact k_out (Ent.of_eq (congrArg _ (vfy_l (by omega) (okL_l g14)).symm))
        · have g14 := (cnd_not_f cnd_id_t) h14
          try simp only [Int.toNat_natCast] at g14
          refine k_loop (fun _ hs => hs.le (by repeat' (first | exact trivial | (first | exact Ent.refl _ | exact inc_ent (by omega) | exact Ent.nil rfl | exact Ent.of_eq (congrArg (AV.osl _ _ _) (by first | omega | (dsimp only; omega))) | exact Ent.of_eq (congrArg (AV.int _) (by first | omega | (dsimp only; omega)))) | refine And.intro ?_ ?_)) (by repeat' (first | exact trivial | (first | exact ObEnt.refl _ | exact ObEnt.junk | exact ObEnt.zero | exact ObEnt.push rfl rfl | exact ObEnt.pushRow rfl | exact ObEnt.len (by omega) | exact ObEnt.row (by repeat' (first | exact trivial | (first | exact Ent.refl _ | exact inc_ent (by omega) | exact Ent.nil rfl | exact Ent.of_eq (congrArg (AV.osl _ _ _) (by first | omega | (dsimp only; omega))) | exact Ent.of_eq (congrArg (AV.int _) (by first | omega | (dsimp only; omega)))) | refine And.intro ?_ ?_))) | refine And.intro ?_ ?_))) (fun x16 => ?_)
          try (have q16 := x16.2; dsimp only at q16)
          refine k_br (fun h17 => ?_) (fun h17 => ?_)
          · have g17 := cnd_dec_t h17
            refine k_req (by omega) ?_
            refine k_req (by omega) ?_
            refine k_br (fun h20 => ?_) (fun h20 => ?_)
            · have g20 := cnd_beq_t h20
              try simp only [Int.toNat_natCast] at g20
              exact k_out (Ent.of_eq (congrArg _ (vfy_l (i := x10.1) (by omega) (okL_m (by omega) g20)).symm))
            · have g20 := cnd_beq_f h20
              try simp only [Int.toNat_natCast] at g20
              exact k_again (⟨x16.1 + 1, by omega, ne_next x16.2.2 g20⟩) (fun _ hs => hs.le (by repeat' (first | exact trivial | (first | exact Ent.refl _ | exact inc_ent (by omega) | exact Ent.nil rfl | exact Ent.of_eq (congrArg (AV.osl _ _ _) (by first | omega | (dsimp only; omega))) | exact Ent.of_eq (congrArg (AV.int _) (by first | omega | (dsimp only; omega)))) | refine And.intro ?_ ?_)) (by repeat' (first | exact trivial | (first | exact ObEnt.refl _ | exact ObEnt.junk | exact ObEnt.zero | exact ObEnt.push rfl rfl | exact ObEnt.pushRow rfl | exact ObEnt.len (by omega) | exact ObEnt.row (by repeat' (first | exact trivial | (first | exact Ent.refl _ | exact inc_ent (by omega) | exact Ent.nil rfl | exact Ent.of_eq (congrArg (AV.osl _ _ _) (by first | omega | (dsimp only; omega))) | exact Ent.of_eq (congrArg (AV.int _) (by first | omega | (dsimp only; omega)))) | refine And.intro ?_ ?_))) | refine And.intro ?_ ?_))) (by (dsimp only; omega))
          · have g17 := cnd_dec_f h17
            refine k_req (by omega) ?_
            refine k_req (by omega) ?_
            exact k_again (⟨x10.1 + 1, by omega, all_next x10.2.2 (okL_n g14 (fun j hj => x16.2.2 j (by omega)))⟩) (fun _ hs => hs.le (by repeat' (first | exact trivial | (first | exact Ent.refl _ | exact inc_ent (by omega) | exact Ent.nil rfl | exact Ent.of_eq (congrArg (AV.osl _ _ _) (by first | omega | (dsimp only; omega))) | exact Ent.of_eq (congrArg (AV.int _) (by first | omega | (dsimp only; omega)))) | refine And.intro ?_ ?_)) (by repeat' (first | exact trivial | (first | exact ObEnt.refl _ | exact ObEnt.junk | exact ObEnt.zero | exact ObEnt.push rfl rfl | exact ObEnt.pushRow rfl | exact ObEnt.len (by omega) | exact ObEnt.row (by repeat' (first | exact trivial | (first | exact Ent.refl _ | exact inc_ent (by omega) | exact Ent.nil rfl | exact Ent.of_eq (congrArg (AV.osl _ _ _) (by first | omega | (dsimp only; omega))) | exact Ent.of_eq (congrArg (AV.int _) (by first | omega | (dsimp only; omega)))) | refine And.intro ?_ ?_))) | refine And.intro ?_ ?_))) (by (dsimp only; omega))
      · have g11 := cnd_dec_f h11
        refine k_dc (c6 (x10.1) (by omega)) ?_
        refine k_sc (c7 (x10.1) (by (cases rhd_ok g4 g7; rw [show x10.1 = s.nl by omega]; assumption)) (by (cases rhd_ok g4 g7; assumption))) ?_
        refine k_sc (c8 (by (cases rhd_ok g4 g7; assumption)) (by (cases rhd_ok g4 g7; assumption)) (by (cases rhd_ok g4 g7; assumption))) ?_
        exact k_out (Ent.of_eq (congrArg _ (vfy_r (rhd_ok g4 g7).hd g7.2 (fun i hi => x10.2.2 i (by omega))).symm))

end Go.Proofs.YtdaaddkipdmajaaGreatDoor

namespace Go.Sp
open Go Go.Am
abbrev rcl (n : Nat) (R : Nat → Nat → Int) : AV := .isl 11 n fun i j => .int .i64 (R i j)
def rcdOf (f : Nat → Int) : Rcd := ⟨f 0, f 1, f 2, f 3, f 4, f 5, f 6, f 7, f 8, f 9, f 10⟩
def fnB (R : Nat → Nat → Int) (k e d : Int) (i : Nat) : Bool := R i 0 == k && R i 1 == e && R i 2 == d
def fnI (R : Nat → Nat → Int) (n : Nat) (k e d : Int) : Int := firstI (fnB R k e d) n 0
def fnS (R : Nat → Nat → Int) (n : Nat) (s : Spend) : Int := fnI R n s.bank s.epoch s.denom
def rcX (R : Nat → Nat → Int) (n : Nat) (s : Spend) : Rcd := bif decide (fnS R n s ≥ 0) then rcdOf (R (fnS R n s).toNat) else rcdOf fun _ => 0
def verd (b : Bas) (R : Nat → Nat → Int) (n : Nat) (s : Spend) : Bool := decide (fnS R n s ≥ 0) && vfy b (rcX R n s) s
theorem fnI_lt {R : Nat → Nat → Int} {n : Nat} {k e d : Int} (h : ¬ fnI R n k e d < 0) : 0 ≤ fnI R n k e d ∧ fnI R n k e d < n := by
  have := firstI_lt (p := fnB R k e d) n 0
  unfold fnI at *
  omega
theorem rcX_no {R : Nat → Nat → Int} {n : Nat} {s : Spend} (h : fnS R n s < 0) : rcX R n s = rcdOf fun _ => 0 := by
  unfold rcX; rw [decide_eq_false (by omega)]; rfl
theorem rcX_ok {R : Nat → Nat → Int} {n : Nat} {s : Spend} (h : ¬ fnS R n s < 0) : rcX R n s = rcdOf (R (fnS R n s).toNat) := by
  unfold rcX; rw [decide_eq_true (by omega)]; rfl
noncomputable def glK (b : Bas) (s t : Spend) (leaf : Int) : Int × Int :=
  if (secR b s t leaf).2 = 0 then (if (secR b s t leaf).1 = 0 ∨ msgI b (secR b s t leaf).1 = 1 then (0, 10) else (b.g1 ^ (secR b s t leaf).1.toNat % b.gr.p, 0)) else (0, (secR b s t leaf).2)
def vd2 (b : Bas) (R : Nat → Nat → Int) (n : Nat) (s t : Spend) : Bool := verd b R n s && verd b R n t
noncomputable def xvK (b : Bas) (R : Nat → Nat → Int) (n : Nat) (s t : Spend) (leaf : Int) : Int := bif vd2 b R n s t then (glK b s t leaf).1 else 0
noncomputable def xvB (b : Bas) (R : Nat → Nat → Int) (n : Nat) (s t : Spend) (leaf : Int) : Bool := vd2 b R n s t && (glK b s t leaf).2 == 0
theorem rec_no {R : Nat → Nat → Int} {n : Nat} {s : Spend} (h : fnS R n s < 0) : AV.tup [(rcdOf fun _ => 0).av, .bool false] = .tup [(rcX R n s).av, .bool (decide (fnS R n s ≥ 0))] := by
  rw [rcX_no h, decide_eq_false (by omega)]
theorem rec_ok {R : Nat → Nat → Int} {n : Nat} {s : Spend} (h : ¬ fnS R n s < 0) : AV.tup [(rcdOf (R (fnS R n s).toNat)).av, .bool true] = .tup [(rcX R n s).av, .bool (decide (fnS R n s ≥ 0))] := by
  rw [rcX_ok h, decide_eq_true (by omega)]
theorem secR_ok {b : Bas} {s t : Spend} {leaf : Int} (h : (secR b s t leaf).2 = 0) : b.Ok ∧ 0 ≤ (secR b s t leaf).1 ∧ (secR b s t leaf).1 < b.gr.q := by
  unfold secR at h ⊢
  split at h
  · cases h
  rename_i h0
  have hv : validB b = true := by
    cases hv : validB b with
    | true => rfl
    | false => exact absurd (.inl hv) h0
  have hq := validB_q hv
  rw [if_neg h0]
  split at h
  · cases h
  rename_i h1
  rw [if_neg h1]
  split at h
  · cases h
  rename_i h2
  rw [if_neg h2]
  split at h
  · cases h
  rename_i h3
  rw [if_neg h3]
  split at h
  · cases h
  rename_i h4
  rw [if_neg h4]
  split at h
  · cases h
  rename_i h5
  rw [if_neg h5]
  exact ⟨validB_iff.1 hv, Int.emod_nonneg _ (by omega), Int.emod_lt_of_pos _ hq.1⟩
theorem glK_1 {b : Bas} {s t : Spend} {leaf : Int} (h : ¬ (secR b s t leaf).2 = 0) : glK b s t leaf = (0, (secR b s t leaf).2) := if_neg h
theorem glK_2 {b : Bas} {s t : Spend} {leaf : Int} (h : (secR b s t leaf).2 = 0) (h' : (secR b s t leaf).1 = 0 ∨ msgI b (secR b s t leaf).1 = 1) : glK b s t leaf = (0, 10) := by
  unfold glK; rw [if_pos h, if_pos h']
theorem glK_3 {b : Bas} {s t : Spend} {leaf : Int} (h : (secR b s t leaf).2 = 0) (h' : ¬ (secR b s t leaf).1 = 0 ∧ ¬ msgI b (secR b s t leaf).1 = 1) : glK b s t leaf = (b.g1 ^ (secR b s t leaf).1.toNat % b.gr.p, 0) := by
  unfold glK; rw [if_pos h, if_neg (by simp [h'])]
theorem gl_out {b : Bas} {s t : Spend} {leaf : Int} {x : Int × Int} (h : glK b s t leaf = x) : AV.tup [.int .i64 x.1, .int .i64 x.2] = .tup [.int .i64 (glK b s t leaf).1, .int .i64 (glK b s t leaf).2] := by rw [h]
theorem okS_hd {b : Bas} {r : Rcd} {s : Spend} (h : hdB b r s = true) : okS s = true := by
  have k := hd_of h
  have hn := k.n
  have h0 := h
  unfold hdB at h
  simp only [Bool.and_eq_true] at h
  have hc := h.1.1.2
  have hsp := (span_d hn).1
  have hl : (s.nl : Int) = szR s := by rw [sz_r hn, k.l]
  unfold ctxB at hc
  simp only [Bool.and_eq_true, decide_eq_true_eq] at hc
  unfold okS
  rw [hsp, show ((s.nl : Int) != IntKind.wrap .i64 (spanZ s.depth s.level s.index - spanA s.depth s.level s.index)) = false by simpa using hl]
  simp
  omega
theorem vd_ok {b : Bas} {R : Nat → Nat → Int} {n : Nat} {s : Spend} (h : verd b R n s = true) : validB b = true ∧ okS s = true := by
  unfold verd vfy at h
  simp only [Bool.and_eq_true] at h
  have h := h.2.1.1
  exact ⟨(hd_of h).v, okS_hd h⟩
theorem xv_no {b : Bas} {R : Nat → Nat → Int} {n : Nat} {s t : Spend} {leaf : Int} (h : verd b R n s = false ∨ verd b R n t = false) : AV.tup [.int .i64 0, .bool false] = .tup [.int .i64 (xvK b R n s t leaf), .bool (xvB b R n s t leaf)] := by
  have e : vd2 b R n s t = false := by unfold vd2; rcases h with h | h <;> simp [h]
  unfold xvK xvB; rw [e]; rfl
theorem xv_no4 {b : Bas} {R : Nat → Nat → Int} {n : Nat} {s t : Spend} {leaf : Int} (h : ((validB b = false ∨ (okS s = false ∨ okS t = false)) ∨ verd b R n s = false) ∨ verd b R n t = false) : AV.tup [.int .i64 0, .bool false] = .tup [.int .i64 (xvK b R n s t leaf), .bool (xvB b R n s t leaf)] := by
  refine xv_no ?_
  cases hs : verd b R n s with
  | false => exact .inl rfl
  | true =>
    cases ht : verd b R n t with
    | false => exact .inr rfl
    | true =>
      exfalso
      have a := vd_ok hs
      have c := vd_ok ht
      rcases h with ((h | h | h) | h) | h
      · rw [a.1] at h; cases h
      · rw [a.2] at h; cases h
      · rw [c.2] at h; cases h
      · rw [hs] at h; cases h
      · rw [ht] at h; cases h
theorem xv_yes {b : Bas} {R : Nat → Nat → Int} {n : Nat} {s t : Spend} {leaf : Int} (h : verd b R n s = true ∧ verd b R n t = true) : AV.tup [.int .i64 (glK b s t leaf).1, .bool ((glK b s t leaf).2 == 0)] = .tup [.int .i64 (xvK b R n s t leaf), .bool (xvB b R n s t leaf)] := by
  unfold xvK xvB vd2; rw [h.1, h.2]; rfl
end Go.Sp

namespace Go.Proofs.YtdaaddkipdmajaaGreatDoor
open Go Go.Am Go.Sp
set_option maxRecDepth 100000

abbrev kFV160 : List AV := [AV.agg [Zi 0, Zi 0, Zi 0, Zi 0, Zi 0, Zi 0, Zi 0, Zi 0, Zi 0, Zi 0, Zi 0], AV.bool false]
theorem vfind1_c (r0 r1 r2 r3 r4 r5 r6 r7 r8 r9 r10 k e d : Int) : Pure Tryz.prog gl0 227 [.agg [.int .i64 r0, .int .i64 r1, .int .i64 r2, .int .i64 r3, .int .i64 r4, .int .i64 r5, .int .i64 r6, .int .i64 r7, .int .i64 r8, .int .i64 r9, .int .i64 r10], .ipt 1 (atL [.int .i64 k]), .ipt 1 (atL [.int .i64 e]), .ipt 1 (atL [.int .i64 d])] (.bool (r0 == k && r1 == e && r2 == d)) := by
  refine pure_sk (own := ow0) Tryz.func227 (by kernel_rfl) mixed (by kernel_rfl)
    (let y0 : AV := (AV.bool (r0 == k && r1 == e && r2 == d)); (.out y0 [] y0 []))
    (by kernel_rfl) ?_
  exact k_out (Ent.refl _)

theorem vindex_c (R : Nat → Nat → Int) (n : Nat) (k e d : Int) (hn : n ≤ 1000) : Pure Tryz.prog gl0 226 [rcl n R, .fn (.func 227) [] [.ipt 1 (atL [.int .i64 k]), .ipt 1 (atL [.int .i64 e]), .ipt 1 (atL [.int .i64 d])]] (.int .i64 (fnI R n k e d)) := by
  unfold fnI
  refine pure_sk (own := ow0) Tryz.func226 (by kernel_rfl) mixed (by kernel_rfl)
    (let y0 : List AV := [AV.ipt 1 (atL [Zi k]), AV.ipt 1 (atL [Zi e]), AV.ipt 1 (atL [Zi d])]; (.loop ({ x : Nat // x ≤ n ∧ (fun (i : Nat) => firstI (fnB R k e d) n 0 = firstI (fnB R k e d) (n - i) i) x }) (fun (x : { x : Nat // x ≤ n ∧ (fun (i : Nat) => firstI (fnB R k e d) n 0 = firstI (fnB R k e d) (n - i) i) x }) => mkSt [0, 1, 7, 8] [AV.isl 11 n fun (i j : Nat) => Zi (R i j), AV.fn (Fn.func (227 : FuncId)) [] y0, Zi (↑n : Int), Zi (↑(x.1) : Int)] []) (fun (x : { x : Nat // x ≤ n ∧ (fun (i : Nat) => firstI (fnB R k e d) n 0 = firstI (fnB R k e d) (n - i) i) x }) => n - x.1) (⟨0, ⟨Nat.zero_le n, rfl⟩⟩) ([0, 1, 7, 8]) ([]) ([AV.isl 11 n fun (i j : Nat) => Zi (R i j), AV.fn (Fn.func (227 : FuncId)) [] y0, Zi (↑n : Int), Zi 0]) ([]) (fun x0 => (.br (decide ((↑x0.1 : Int) < (↑n : Int))) (.req ((0 : Int) ≤ (↑x0.1 : Int) ∧ (↑x0.1 : Int) < (↑n : Int)) (.sc (true) 227 ([AV.agg [Zi (R (Int.toNat (↑x0.1 : Int)) 0), Zi (R (Int.toNat (↑x0.1 : Int)) 1), Zi (R (Int.toNat (↑x0.1 : Int)) 2), Zi (R (Int.toNat (↑x0.1 : Int)) 3), Zi (R (Int.toNat (↑x0.1 : Int)) 4), Zi (R (Int.toNat (↑x0.1 : Int)) 5), Zi (R (Int.toNat (↑x0.1 : Int)) 6), Zi (R (Int.toNat (↑x0.1 : Int)) 7), Zi (R (Int.toNat (↑x0.1 : Int)) 8), Zi (R (Int.toNat (↑x0.1 : Int)) 9), Zi (R (Int.toNat (↑x0.1 : Int)) 10)], AV.ipt 1 (atL [Zi k]), AV.ipt 1 (atL [Zi e]), AV.ipt 1 (atL [Zi d])]) (AV.bool (R (Int.toNat (↑x0.1 : Int)) 0 == k && R (Int.toNat (↑x0.1 : Int)) 1 == e && R (Int.toNat (↑x0.1 : Int)) 2 == d)) (.br (R (Int.toNat (↑x0.1 : Int)) 0 == k && R (Int.toNat (↑x0.1 : Int)) 1 == e && R (Int.toNat (↑x0.1 : Int)) 2 == d) (.out (Zi (↑x0.1 : Int)) [] (Zi (firstI (fnB R k e d) n 0)) []) (.again (Again 0 (fun (x : { x : Nat // x ≤ n ∧ (fun (i : Nat) => firstI (fnB R k e d) n 0 = firstI (fnB R k e d) (n - i) i) x }) => mkSt [0, 1, 7, 8] [AV.isl 11 n fun (i j : Nat) => Zi (R i j), AV.fn (Fn.func (227 : FuncId)) [] y0, Zi (↑n : Int), Zi (↑(x.1) : Int)] []) (fun (x : { x : Nat // x ≤ n ∧ (fun (i : Nat) => firstI (fnB R k e d) n 0 = firstI (fnB R k e d) (n - i) i) x }) => n - x.1) x0) ([0, 1, 7, 8]) ([]) ([AV.isl 11 n fun (i j : Nat) => Zi (R i j), AV.fn (Fn.func (227 : FuncId)) [] y0, Zi (↑n : Int), Zi (IntKind.wrap IntKind.i64 ((↑x0.1 : Int) + 1))]) ([]))))) (.out (Zi (-1)) [] (Zi (firstI (fnB R k e d) n 0)) [])))))
    (by kernel_rfl) ?_
  refine k_loop (fun _ hs => hs.le (⟨.refl _, .refl _, .refl _, .refl _, trivial⟩) (trivial)) (fun x0 => ?_)
  try (have q0 := x0.2; dsimp only at q0)
  refine k_br (fun h1 => ?_) (fun h1 => ?_)
  · have g1 := cnd_dec_t h1
    refine k_req (by omega) ?_
    refine k_sc (vfind1_c (R (Int.toNat (↑x0.1 : Int)) (0)) (R (Int.toNat (↑x0.1 : Int)) (1)) (R (Int.toNat (↑x0.1 : Int)) (2)) (R (Int.toNat (↑x0.1 : Int)) (3)) (R (Int.toNat (↑x0.1 : Int)) (4)) (R (Int.toNat (↑x0.1 : Int)) (5)) (R (Int.toNat (↑x0.1 : Int)) (6)) (R (Int.toNat (↑x0.1 : Int)) (7)) (R (Int.toNat (↑x0.1 : Int)) (8)) (R (Int.toNat (↑x0.1 : Int)) (9)) (R (Int.toNat (↑x0.1 : Int)) (10)) (k) (e) (d)) ?_
    refine k_br (fun h4 => ?_) (fun h4 => ?_)
    · have g4 := (cnd_and_t (cnd_and_t cnd_beq_t cnd_beq_t) cnd_beq_t) h4
      try simp only [Int.toNat_natCast] at g4
      exact k_out (Ent.of_eq (congrArg _ (first_hit x0.2.2 (by omega) h4)))
    · have g4 := (cnd_and_f (cnd_and_f cnd_beq_f cnd_beq_f) cnd_beq_f) h4
      try simp only [Int.toNat_natCast] at g4
      exact k_again (⟨x0.1 + 1, by omega, first_next x0.2.2 (by omega) h4⟩) (fun _ hs => hs.le (⟨.refl _, .refl _, .refl _, inc_ent (by omega), trivial⟩) (trivial)) (by dsimp only; omega)
  · have g1 := cnd_dec_f h1
    exact k_out (Ent.of_eq (congrArg _ (first_miss x0.2.2 (by omega))))

theorem vfind_c (R : Nat → Nat → Int) (n : Nat) (k e d : Int) (hn : n ≤ 1000) : Pure Tryz.prog gl0 182 [rcl n R, .int .i64 k, .int .i64 e, .int .i64 d] (.int .i64 (fnI R n k e d)) := by
  have c1 := vindex_c R n k e d hn
  refine pure_sk (own := ow0) Tryz.func182 (by kernel_rfl) mixed (by kernel_rfl)
    (.sc (true) 226 ([AV.isl 11 n fun (i j : Nat) => Zi (R i j), AV.fn (Fn.func 227) [] [AV.ipt 1 fun (k_1 : Nat) => atL [Zi k] k_1, AV.ipt 1 fun (k : Nat) => atL [Zi e] k, AV.ipt 1 fun (k : Nat) => atL [Zi d] k]]) (Zi (fnI R n k e d)) (.out (Zi (fnI R n k e d)) [] (Zi (fnI R n k e d)) []))
    (by kernel_rfl) ?_
  refine k_sc (c1) ?_
  exact k_out (Ent.refl _)

theorem vrec_c (R : Nat → Nat → Int) (n : Nat) (s : Spend) (hn : n ≤ 1000) : Pure Tryz.prog gl0 105 [rcl n R, s.av] (.tup [(rcX R n s).av, .bool (decide (fnS R n s ≥ 0))]) := by
  have c1 := vfind_c R n s.bank s.epoch s.denom hn
  refine pure_sk (own := ow0) Tryz.func105 (by kernel_rfl) mixed (by kernel_rfl)
    (let y0 : Nat := (Int.toNat (fnI R n s.1 s.2 s.3)); let y1 : AV := (AV.tup [Rcd.av (rcX R n s), AV.bool (decide (fnS R n s ≥ 0))]); (.sc (true) 182 ([AV.isl 11 n fun (i j : Nat) => Zi (R i j), Zi s.1, Zi s.2, Zi s.3]) (Zi (fnI R n (Spend.bank s) (Spend.epoch s) (Spend.denom s))) (.br (decide (fnI R n s.1 s.2 s.3 < 0) || decide (fnI R n s.1 s.2 s.3 ≥ (↑n : Int))) (.out (AV.tup kFV160) [] y1 []) (.req ((0 : Int) ≤ fnI R n s.1 s.2 s.3 ∧ fnI R n s.1 s.2 s.3 < (↑n : Int)) (.out (AV.tup [AV.agg [Zi (R y0 0), Zi (R y0 1), Zi (R y0 2), Zi (R y0 3), Zi (R y0 4), Zi (R y0 5), Zi (R y0 6), Zi (R y0 7), Zi (R y0 8), Zi (R y0 9), Zi (R y0 10)], AV.bool true]) [] y1 [])))))
    (by kernel_rfl) ?_
  refine k_sc (c1) ?_
  refine k_br (fun h1 => ?_) (fun h1 => ?_)
  · have g1 := (cnd_or_t cnd_dec_t cnd_dec_t) h1
    exact k_out (Ent.of_eq (rec_no (s := s) (by (rcases g1 with h | h; (· exact h); (· exfalso; have := firstI_lt (p := fnB R s.bank s.epoch s.denom) n 0; unfold fnI at h; omega)))))
  · have g1 := (cnd_or_f cnd_dec_f cnd_dec_f) h1
    refine k_req (by exact fnI_lt g1.1) ?_
    exact k_out (Ent.of_eq (rec_ok (s := s) (by exact g1.1)))

theorem vver_c (b : Bas) (R : Nat → Nat → Int) (n : Nat) (s : Spend) (hn : n ≤ 1000) (hw : b.gr.W) (hr : byB s.root 32) (hp : byB s.payee 32) (hf : ∀ k, k < s.np → byB (s.pf k) 32) (hm : s.np ≤ 1000000) (hl : s.nl ≤ 1000) : Pure Tryz.prog gl0 99 [b.av, rcl n R, s.av] (.bool (verd b R n s)) := by
  have c1 := vrec_c R n s hn
  have c2 := vfy_c b (rcX R n s) s hw hr hp hf hm hl
  refine pure_sk (own := ow0) Tryz.func99 (by kernel_rfl) mixed (by kernel_rfl)
    (.sc (true) 105 ([AV.isl 11 n fun (i j : Nat) => Zi (R i j), AV.agg (Spend.cells s)]) (AV.tup [Rcd.av (rcX R n s), AV.bool (decide (fnS R n s ≥ 0))]) (.sc (decide (fnS R n s ≥ 0) == true) 17 ([AV.agg (Bas.cells b), AV.agg (Rcd.cells (rcX R n s)), AV.agg (Spend.cells s)]) (AV.bool (vfy b (rcX R n s) s)) (.out (AV.bool (decide (fnS R n s ≥ 0) && vfy b (rcX R n s) s)) [] (AV.bool (verd b R n s)) [])))
    (by kernel_rfl) ?_
  refine k_sc (c1) ?_
  refine k_scg (fun h1 => c2) ?_
  exact k_out (Ent.refl _)

theorem guilty_c (b : Bas) (s t : Spend) (leaf : Int) (hw : b.gr.W) (hs : s.nl ≤ 1000) (ht : t.nl ≤ 1000) (bs : s.By) (bt : t.By) : Pure Tryz.prog gl0 100 [b.av, s.av, t.av, .int .i64 leaf] (.tup [.int .i64 (glK b s t leaf).1, .int .i64 (glK b s t leaf).2]) := by
  have c1 := secret_c b s t leaf hw hs ht bs bt
  have c2 := fun h hu => message_c b (secR b s t leaf).1 h hw hu
  have c3 := fun h h2 hu => gpow_c b.gr b.g1 (secR b s t leaf).1 h hw h2 hu
  refine pure_sk (own := ow0) Tryz.func100 (by kernel_rfl) mixed (by kernel_rfl)
    (let y0 : AV := (AV.tup [Zi (Prod.fst (glK b s t leaf)), Zi (Prod.snd (glK b s t leaf))]); (.sc (true) 44 ([AV.agg (Bas.cells b), AV.agg (Spend.cells s), AV.agg (Spend.cells t), Zi leaf]) (AV.tup [Zi (Prod.fst (secR b s t leaf)), Zi (Prod.snd (secR b s t leaf))]) (.br ((secR b s t leaf).2 != 0) (.out (AV.tup [Zi 0, Zi (secR b s t leaf).2]) [] y0 []) (.sc (((secR b s t leaf).1 == 0) == false) 176 ([AV.agg (Bas.cells b), Zi (secR b s t leaf).1]) (Zi (msgI b (Prod.fst (secR b s t leaf)))) (.br ((secR b s t leaf).1 == 0 || msgI b (secR b s t leaf).1 == 1) (.out (AV.tup [Zi 0, Zi 10]) [] y0 []) (.sc (true) 48 ([AV.agg [Zi (Bas.gr b).1, Zi (Bas.gr b).2, Zi (Bas.gr b).3], Zi b.2, Zi (secR b s t leaf).1]) (AV.tup [Zi (Bas.g1 b ^ Int.toNat (Prod.fst (secR b s t leaf)) % Grp.p (Bas.gr b)), Zi 0]) (.out (AV.tup [Zi (b.2 ^ Int.toNat (secR b s t leaf).1 % (Bas.gr b).1), Zi 0]) [] y0 [])))))))
    (by kernel_rfl) ?_
  refine k_sc (c1) ?_
  refine k_br (fun h1 => ?_) (fun h1 => ?_)
  · have g1 := cnd_bne_t h1
    exact k_out (Ent.of_eq (gl_out (x := (0, (secR b s t leaf).2)) (glK_1 g1)))
  · have g1 := cnd_bne_f h1
    refine k_scg (fun h3 => c2 (by exact (secR_ok g1).1) (by exact (secR_ok g1).2)) ?_
    refine k_br (fun h4 => ?_) (fun h4 => ?_)
    · have g4 := (cnd_or_t cnd_beq_t cnd_beq_t) h4
      exact k_out (Ent.of_eq (gl_out (glK_2 g1 g4)))
    · have g4 := (cnd_or_f cnd_beq_f cnd_beq_f) h4
      refine k_sc (c3 (by exact (secR_ok g1).1.G) (by exact (secR_ok g1).1.e1) (by exact (secR_ok g1).2)) ?_
      exact k_out (Ent.of_eq (gl_out (glK_3 g1 g4)))

end Go.Proofs.YtdaaddkipdmajaaGreatDoor

namespace Go.Proofs.YtdaaddkipdmajaaGreatDoor
open Go Go.Am Go.Sp
set_option maxRecDepth 100000

theorem xverify_c (b : Bas) (R : Nat → Nat → Int) (n : Nat) (s t : Spend) (leaf : Int) (hn : n ≤ 1000) (hw : b.gr.W) (hs : s.nl ≤ 1000) (ht : t.nl ≤ 1000) (bs : s.By) (bt : t.By) (ps : s.np ≤ 1000000) (pt : t.np ≤ 1000000) (fs : ∀ k, k < s.np → byB (s.pf k) 32) (ft : ∀ k, k < t.np → byB (t.pf k) 32) :
    Pure Tryz.prog gl0 37 [b.av, rcl n R, .agg (s.cells ++ (t.cells ++ [.int .i64 leaf]))] (.tup [.int .i64 (xvK b R n s t leaf), .bool (xvB b R n s t leaf)]) := by
  have c0 := bvalid_c b hw
  have c1 := formed2_c s t
  have c2 := vver_c b R n s hn hw bs.root bs.payee fs ps hs
  have c3 := vver_c b R n t hn hw bt.root bt.payee ft pt ht
  have c4 := guilty_c b s t leaf hw hs ht bs bt
  refine pure_sk (own := ow0) Tryz.func37 (by kernel_rfl) mixed (by kernel_rfl)
    (let y0 : AV := (AV.tup [Zi (xvK b R n s t leaf), AV.bool (xvB b R n s t leaf)]); (.sc (true) 52 ([AV.agg (Bas.cells b)]) (AV.bool (validB b)) (.sc ((!validB b) == false) 98 ([AV.isl 80 2 fun (r k : Nat) => atL (List.getD [Spend.cells s, Spend.cells t] (r + 0) []) k]) (AV.bool (okS s && okS t)) (.sc ((!validB b || !(okS s && okS t)) == false) 99 ([AV.agg (Bas.cells b), AV.isl 11 n fun (i j : Nat) => Zi (R i j), AV.agg (Spend.cells s)]) (AV.bool (verd b R n s)) (.sc ((!validB b || !(okS s && okS t) || !verd b R n s) == false) 99 ([AV.agg (Bas.cells b), AV.isl 11 n fun (i j : Nat) => Zi (R i j), AV.agg (Spend.cells t)]) (AV.bool (verd b R n t)) (.br (!validB b || !(okS s && okS t) || !verd b R n s || !verd b R n t) (.out (AV.tup [Zi 0, AV.bool false]) [] y0 []) (.sc (true) 100 ([AV.agg (Bas.cells b), AV.agg (Spend.cells s), AV.agg (Spend.cells t), Zi leaf]) (AV.tup [Zi (Prod.fst (glK b s t leaf)), Zi (Prod.snd (glK b s t leaf))]) (.out (AV.tup [Zi (glK b s t leaf).1, AV.bool ((glK b s t leaf).2 == 0)]) [] y0 []))))))))
    (by kernel_rfl) ?_
  refine k_sc (c0) ?_
  refine k_scg (fun h1 => c1) ?_
  refine k_scg (fun h2 => c2) ?_
  refine k_scg (fun h3 => c3) ?_
  refine k_br (fun h4 => ?_) (fun h4 => ?_)
  · have g4 := (cnd_or_t (cnd_or_t (cnd_or_t (cnd_not_t cnd_id_f) (cnd_not_t (cnd_and_f cnd_id_f cnd_id_f))) (cnd_not_t cnd_id_f)) (cnd_not_t cnd_id_f)) h4
    exact k_out (Ent.of_eq (xv_no4 g4))
  · have g4 := (cnd_or_f (cnd_or_f (cnd_or_f (cnd_not_f cnd_id_t) (cnd_not_f (cnd_and_t cnd_id_t cnd_id_t))) (cnd_not_f cnd_id_t)) (cnd_not_f cnd_id_t)) h4
    refine k_sc (c4) ?_
    exact k_out (Ent.of_eq (xv_yes ⟨g4.1.2, g4.2⟩))

end Go.Proofs.YtdaaddkipdmajaaGreatDoor

namespace Go.Sp
open Go Go.Am
end Go.Sp

namespace Go.Sp
open Go Go.Am
theorem el_q {G : Grp} (h : G.Ok) {x : Int} (hx : elemB G x = true) (a b : Nat) (e : a % G.q.toNat = b % G.q.toNat) : x ^ a % G.p = x ^ b % G.p := by
  have hp := h.p3
  have k : ∀ n : Nat, x ^ n % G.p = x ^ (n % G.q.toNat) % G.p := fun n => by
    have h1 : n = G.q.toNat * (n / G.q.toNat) + n % G.q.toNat := (Nat.div_add_mod n _).symm
    have h2 : x ^ n = (x ^ G.q.toNat) ^ (n / G.q.toNat) * x ^ (n % G.q.toNat) := by rw [← Int.pow_mul, ← Int.pow_add, ← h1]
    rw [h2, Int.mul_emod, ← pow_mod, ((elem_iff h).1 hx).2.2, Int.one_pow, Int.emod_eq_of_lt (a := 1) (b := G.p) (by decide) (by omega), Int.one_mul, Int.emod_emod_of_dvd _ (Int.dvd_refl _)]
  rw [k a, k b, e]
theorem el_cancel {G : Grp} (h : G.Ok) {x : Int} (hx : elemB G x = true) {y z : Int} : x * y % G.p = x * z % G.p ↔ y % G.p = z % G.p := by
  have hp := h.p3
  have hq := h.q3
  refine ⟨fun e => ?_, fun e => by rw [← mulmod2, e, mulmod2]⟩
  have one : ∀ y, x ^ (G.q.toNat - 1) * (x * y) % G.p = y % G.p := fun y => by
    have : x ^ (G.q.toNat - 1) * (x * y) = x ^ G.q.toNat * y := by
      rw [← Int.mul_assoc, ← Int.pow_succ, Nat.succ_eq_add_one, show G.q.toNat - 1 + 1 = G.q.toNat by omega]
    rw [this, Int.mul_emod, ((elem_iff h).1 hx).2.2, Int.one_mul, Int.emod_emod_of_dvd _ (Int.dvd_refl _)]
  rw [← one y, ← one z, ← mulmod2, e, mulmod2]
theorem sum_q {q x u : Int} (hq : 3 ≤ q) (hx : 0 ≤ x) (hu : 0 ≤ u) : ((x + u) % q).toNat % q.toNat = (x.toNat + u.toNat) % q.toNat := by
  obtain ⟨n, rfl⟩ := Int.eq_ofNat_of_zero_le hx
  obtain ⟨m, rfl⟩ := Int.eq_ofNat_of_zero_le hu
  obtain ⟨k, rfl⟩ := Int.eq_ofNat_of_zero_le (show 0 ≤ q by omega)
  show (((n : Int) + m) % k).toNat % k = (n + m) % k
  rw [← Int.natCast_add, ← Int.natCast_emod, Int.toNat_natCast, Nat.mod_mod]
theorem back2_q {q c d : Int} (hq : 3 ≤ q) (hc : 0 ≤ c) (hd : 0 ≤ d) : d.toNat % q.toNat = (c.toNat + ((d - c) % q).toNat) % q.toNat := by
  have e := sum_q hq hc (Int.emod_nonneg (d - c) (by omega : q ≠ 0))
  rw [← e, Int.add_emod, Int.emod_emod_of_dvd _ (Int.dvd_refl _), ← Int.add_emod, show c + (d - c) = d by omega]
  have e2 := sum_q hq hd (Int.le_refl 0)
  rw [Int.add_zero, Int.toNat_zero, Nat.add_zero] at e2
  exact e2.symm
theorem acc_leaf {b : Bas} (k : b.Ok) {A c d x r1 r2 u : Int} (hA : elemB b.gr A = true) (hu : 0 ≤ u ∧ u < b.gr.q) (hc : 0 ≤ c) (hd : 0 ≤ d) (h : leafB b A c x r1 r2 = true) :
    leafB b A d x ((r1 + u) % b.gr.q) ((r2 + 1) % b.gr.q) = (A ^ ((d - c) % b.gr.q).toNat % b.gr.p == msgI b u) := by
  have hq := k.G.q3
  unfold leafB chk2 at h ⊢
  simp only [Bool.and_eq_true, beq_iff_eq] at h
  obtain ⟨hx, ⟨h1, h2⟩, e⟩ := h
  have s1 := sca_iff.1 h1
  have s2 := sca_iff.1 h2
  have sc : ∀ z : Int, scaB b.gr (z % b.gr.q) = true := fun z => sca_iff.2 ⟨Int.emod_nonneg _ (by omega), Int.emod_lt_of_pos _ (by omega)⟩
  rw [hx, sc, sc, Bool.true_and, Bool.true_and, Bool.true_and]
  unfold pr2 at e ⊢
  unfold msgI
  rw [el_q k.G k.e1 _ _ (sum_q hq s1.1 hu.1), el_q k.G k.e2 _ _ (sum_q hq s2.1 (by omega : (0 : Int) ≤ 1)), el_q k.G hA d.toNat _ (back2_q hq hc hd)]
  rw [mulmod, mulmod2] at e ⊢
  rw [mulmod] at e ⊢
  rw [mulmod]
  have t1 : b.g1 ^ (r1.toNat + u.toNat) * b.g2 ^ (r2.toNat + Int.toNat 1) % b.gr.p = x * (A ^ c.toNat % b.gr.p * (b.g1 ^ u.toNat * b.g2)) % b.gr.p := by
    have : b.g1 ^ (r1.toNat + u.toNat) * b.g2 ^ (r2.toNat + Int.toNat 1) = b.g1 ^ r1.toNat * b.g2 ^ r2.toNat * (b.g1 ^ u.toNat * b.g2) := by
      rw [Int.pow_add, Int.pow_add, show b.g2 ^ Int.toNat 1 = b.g2 from Int.pow_succ .. |>.trans (by rw [Int.pow_zero, Int.one_mul])]
      generalize b.g1 ^ r1.toNat = w1
      generalize b.g2 ^ r2.toNat = w2
      generalize b.g1 ^ u.toNat = w3
      grind
    rw [this, ← mulmod, e, mulmod, ← mulmod2 x, mulmod, mulmod2]
    congr 1
    generalize A ^ c.toNat = w1
    generalize b.g1 ^ u.toNat = w3
    grind
  have t2 : A ^ (c.toNat + ((d - c) % b.gr.q).toNat) * x % b.gr.p = x * (A ^ c.toNat % b.gr.p * A ^ ((d - c) % b.gr.q).toNat) % b.gr.p := by
    rw [Int.pow_add, ← mulmod2 x, mulmod, mulmod2, Int.mul_comm x]
  rw [t1, t2]
  apply Bool.eq_iff_iff.2
  rw [beq_iff_eq, beq_iff_eq, el_cancel k.G hx, el_cancel k.G (elem_pow k.G hA c.toNat)]
  exact ⟨Eq.symm, Eq.symm⟩
structure ClOk (b : Bas) (s : Spend) (u : Int) : Prop where
  v : validB b = true
  ok : okS s = true
  odd : ¬ firstI (oddB b s) s.nl 0 ≥ 0
  u : 0 ≤ u ∧ u < b.gr.q
  n : s.number < 1073741824
theorem claim_has {b : Bas} {s : Spend} {u : Int} (h : claimE b s u = 0) : ClOk b s u := by
  unfold claimE at h
  split at h
  · cases h
  rename_i h1
  split at h
  · cases h
  rename_i h2
  refine ⟨?_, ?_, fun hh => h2 (Or.inl (decide_eq_true hh)), scB_t ?_, Int.not_le.1 fun hh => h2 (Or.inr (Or.inr hh))⟩
  · cases hb : validB b with
    | true => rfl
    | false => exact absurd (Or.inl hb) h1
  · cases hb : okS s with
    | true => rfl
    | false => exact absurd (Or.inr hb) h1
  · cases hb : scB b u with
    | true => rfl
    | false => exact absurd (Or.inr (Or.inl hb)) h2
def accX (b : Bas) (s : Spend) (u : Int) : Int := s.a ^ ((chS b (claimT s u b.gr.q) - chS b s) % b.gr.q).toNat % b.gr.p
theorem acc_vfy {b : Bas} {r : Rcd} {s : Spend} {u : Int} (h : vfy b r s = true) (he : claimE b s u = 0) : vfy b r (claimT s u b.gr.q) = (accX b s u == msgI b u) := by
  have c := claim_has he
  have h0 := h
  unfold vfy at h
  simp only [Bool.and_eq_true] at h
  obtain ⟨⟨hh, ha⟩, hn, hf⟩ := h
  have hd := hd_of hh
  have k := validB_iff.1 hd.v
  have ha := fun i hi => List.all_eq_true.1 ha i (List.mem_range.2 hi)
  have hq := k.G.q3
  have hh2 : hdB b r (claimT s u b.gr.q) = true := by
    have hc := (okS_all c.ok).2.1
    have hc2 : ctxB s.time (s.number + 1) = true := by
      have := c.n
      unfold ctxB at hc ⊢
      simp at hc ⊢
      omega
    unfold hdB at hh ⊢
    simp only [Bool.and_eq_true] at hh ⊢
    exact ⟨⟨⟨hh.1.1.1, hc2⟩, hh.1.2⟩, hh.2⟩
  have hl : ∀ i, i < s.nl → okL b (claimT s u b.gr.q) i = (accX b s u == msgI b u) := fun i hi => by
    have o := ha i hi
    unfold okL at o
    simp only [Bool.and_eq_true] at o
    unfold okL
    rw [show newB (claimT s u b.gr.q) i = true from o.2, Bool.and_true]
    exact acc_leaf k hd.a c.u hd.k.1 (chS_q hd.q0).1 o.1
  unfold vfy
  rw [hh2, show ((claimT s u b.gr.q).np : Int) == (claimT s u b.gr.q).level from hn, show hEq (folF (topF (claimT s u b.gr.q)) (claimT s u b.gr.q).pidx (claimT s u b.gr.q).pf (claimT s u b.gr.q).np) (claimT s u b.gr.q).root = true from hf, Bool.true_and, Bool.and_true, Bool.and_true]
  cases hw : (accX b s u == msgI b u) with
  | true => exact allI_t fun i hi => (hl i hi).trans hw
  | false => exact allI_f (i := 0) (show 0 < s.nl from okS_pos c.ok) ((hl 0 (okS_pos c.ok)).trans hw)
theorem sec_ne {b : Bas} {s t : Spend} {l : Int} (h : (secR b s t l).2 = 0) : ¬ chS b s = chS b t := by
  unfold secR at h
  intro e
  split at h
  · cases h
  split at h
  · cases h
  split at h
  · cases h
  split at h
  · cases h
  first | cases h | (rw [if_pos e] at h; cases h)
theorem sec_20 {b : Bas} {s t : Spend} {l : Int} (h : (secR b s t l).2 = 20) : chS b s = chS b t := by
  unfold secR at h
  split at h
  · cases h
  split at h
  · cases h
  split at h
  · cases h
  split at h
  · cases h
  split at h
  · assumption
  split at h
  · cases h
  · cases h
end Go.Sp

namespace Go.Sp
open Go Go.Am
end Go.Sp

namespace Go.Sp
open Go Go.Am
def rcL (r : Rcd) (j : Nat) : Int := [r.bank, r.epoch, r.denom, r.value, r.depth, r.h, r.h1, r.h2, r.fr, r.til, r.fin].getD j 0
theorem rcL_of (r : Rcd) : rcdOf (rcL r) = r := rfl
theorem one_isl {os : List (Option Ob)} (r : Rcd) : Ent os (.isl 11 1 fun a k => atL (List.getD [r.cells] a []) k) (rcl 1 fun _ => rcL r) := Ent.isl fun i j hi hj => by
  obtain rfl : i = 0 := by omega
  match j, hj with | 0, _ | 1, _ | 2, _ | 3, _ | 4, _ | 5, _ | 6, _ | 7, _ | 8, _ | 9, _ | 10, _ => rfl
theorem acc_fn {b : Bas} {r : Rcd} {s : Spend} (h : hdB b r s = true) : fnS (fun _ => rcL r) 1 s = 0 := by
  have e : fnB (fun _ => rcL r) s.bank s.epoch s.denom 0 = true := by
    unfold hdB coinV at h
    simp only [Bool.and_eq_true, beq_iff_eq] at h
    have h := h.1.1.1.1
    unfold fnB
    simp only [Bool.and_eq_true, beq_iff_eq]
    exact ⟨⟨h.1.1.1.1.2.symm, h.1.1.1.2.symm⟩, h.1.1.2.symm⟩
  unfold fnS fnI
  unfold firstI
  rw [if_pos e]
  rfl
theorem acc_vd {b : Bas} {r : Rcd} {s : Spend} {u : Int} (h : vfy b r s = true) (he : claimE b s u = 0) : vd2 b (fun _ => rcL r) 1 s (claimT s u b.gr.q) = (accX b s u == msgI b u) := by
  have hh : hdB b r s = true := by
    unfold vfy at h
    simp only [Bool.and_eq_true] at h
    exact h.1.1
  have e := acc_fn hh
  have e2 : fnS (fun _ => rcL r) 1 (claimT s u b.gr.q) = 0 := e
  unfold vd2 verd rcX
  rw [e, e2]
  show ((true && vfy b (rcdOf (rcL r)) s) && (true && vfy b (rcdOf (rcL r)) (claimT s u b.gr.q))) = _
  rw [rcL_of, h, acc_vfy h he, Bool.true_and, Bool.true_and, Bool.true_and]
theorem acc_gl {b : Bas} {s : Spend} {u : Int} (he : claimE b s u = 0) : glK b s (claimT s u b.gr.q) (fromS s) = if chS b s = chS b (claimT s u b.gr.q) then (0, 20) else if u = 0 ∨ msgI b u = 1 then (0, 10) else (b.g1 ^ u.toNat % b.gr.p, 0) := by
  rcases claim_sec he with h | h
  · rw [if_pos (sec_20 h), glK_1 (by rw [h]; decide), h]
  · have h2 : (secR b s (claimT s u b.gr.q) (fromS s)).2 = 0 := by rw [h]
    have h1 : (secR b s (claimT s u b.gr.q) (fromS s)).1 = u := by rw [h]
    rw [if_neg (sec_ne h2)]
    by_cases hu : u = 0 ∨ msgI b u = 1
    · rw [if_pos hu, glK_2 h2 (by rw [h1]; exact hu)]
    · rw [if_neg hu, glK_3 h2 (by rw [h1]; simpa using hu), h1]
def accB (b : Bas) (s : Spend) (u : Int) : Bool := decide (¬ chS b s = chS b (claimT s u b.gr.q)) && decide (¬ u = 0) && decide (¬ msgI b u = 1) && accX b s u == msgI b u
theorem acc_xB {b : Bas} {r : Rcd} {s : Spend} {u : Int} (h : vfy b r s = true) (he : claimE b s u = 0) : xvB b (fun _ => rcL r) 1 s (claimT s u b.gr.q) (fromS s) = accB b s u := by
  unfold xvB accB
  rw [acc_vd h he, acc_gl he]
  by_cases h1 : chS b s = chS b (claimT s u b.gr.q)
  · rw [if_pos h1]; simp [h1]
  · rw [if_neg h1]
    by_cases h2 : u = 0
    · rw [if_pos (Or.inl h2)]; simp [h2]
    · by_cases h3 : msgI b u = 1
      · rw [if_pos (Or.inr h3)]; simp [h3]
      · rw [if_neg (by simp [h2, h3])]; simp [h1, h2, h3]
theorem acc_xK {b : Bas} {r : Rcd} {s : Spend} {u : Int} (h : vfy b r s = true) (he : claimE b s u = 0) (ha : accB b s u = true) : xvK b (fun _ => rcL r) 1 s (claimT s u b.gr.q) (fromS s) = b.g1 ^ u.toNat % b.gr.p := by
  unfold accB at ha
  simp only [Bool.and_eq_true, decide_eq_true_eq] at ha
  obtain ⟨⟨⟨h1, h2⟩, h3⟩, h4⟩ := ha
  unfold xvK
  rw [acc_vd h he, acc_gl he, h4, if_neg h1, if_neg (by simp [h2, h3])]
  rfl
theorem vfy_hd {b : Bas} {r : Rcd} {s : Spend} (h : vfy b r s = true) : hdB b r s = true := by
  unfold vfy at h
  simp only [Bool.and_eq_true] at h
  exact h.1.1
theorem vfy_c1 {b : Bas} {r : Rcd} {s : Spend} {u : Int} (h : vfy b r s = true) : ¬ claimE b s u = 1 := fun hh => by
  unfold claimE at hh
  rw [if_neg (by simp [(hd_of (vfy_hd h)).v, okS_hd (vfy_hd h)])] at hh
  split at hh <;> exact absurd hh (by decide)
end Go.Sp

namespace Go.Sp
open Go Go.Am
theorem acc_num {b : Bas} {s : Spend} {u : Int} (he : claimE b s u = 0) : IntKind.wrap .i64 (s.number + 1) = s.number + 1 := by
  unfold claimE at he
  split at he
  · cases he
  rename_i h0
  split at he
  · cases he
  rename_i h1
  have ok : okS s = true := by
    cases h : okS s with
    | true => rfl
    | false => exact absurd (.inr h) h0
  have k := (okS_all ok).2.1
  simp [ctxB] at k
  refine wI ?_ ?_ <;> omega
theorem acc_ch {b : Bas} {s t : Spend} (hq : 0 < b.gr.q) (hq' : b.gr.q < 2305843009213693952) : IntKind.wrap .i64 (chS b t - chS b s) = chS b t - chS b s := by
  have h1 := chS_q (b := b) (s := s) hq
  have h2 := chS_q (b := b) (s := t) hq
  exact wI (by omega) (by omega)
theorem acc_law {b : Bas} {r : Rcd} {s : Spend} {u : Int} (h : vfy b r s = true) (he : claimE b s u = 0) (hq : 0 < b.gr.q) (hq' : b.gr.q < 2305843009213693952) :
    ((accB b s u == ((chS b s != chS b (claimT s u b.gr.q)) && (u != 0) && (msgI b u != 1) && (s.a ^ (IntKind.wrap .i64 (chS b (claimT s u b.gr.q) - chS b s) % b.gr.q).toNat % b.gr.p == msgI b u)))
      && (!accB b s u || xvK b (fun _ => rcL r) 1 s (claimT s u b.gr.q) (fromS s) == b.g1 ^ u.toNat % b.gr.p)) = true := by
  rw [acc_ch hq hq']
  have e : (chS b s != chS b (claimT s u b.gr.q)) = decide (¬ chS b s = chS b (claimT s u b.gr.q)) := by
    by_cases h1 : chS b s = chS b (claimT s u b.gr.q) <;> simp [h1]
  have e2 : (u != 0) = decide (¬ u = 0) := by by_cases h1 : u = 0 <;> simp [h1]
  have e3 : (msgI b u != 1) = decide (¬ msgI b u = 1) := by by_cases h1 : msgI b u = 1 <;> simp [h1]
  have e4 : accB b s u = ((chS b s != chS b (claimT s u b.gr.q)) && (u != 0) && (msgI b u != 1) && (s.a ^ ((chS b (claimT s u b.gr.q) - chS b s) % b.gr.q).toNat % b.gr.p == msgI b u)) := by
    rw [e, e2, e3]; rfl
  rw [← e4, beq_self_eq_true, Bool.true_and]
  cases ha : accB b s u with
  | false => rfl
  | true => rw [acc_xK h he ha]; simp
theorem claim_gul2 {b : Bas} {s : Spend} {u : Int} (h : claimE b s u = 2) : claimG b s u = gul .zero .zero 0 := by unfold claimG; rw [if_neg (by omega)]
end Go.Sp

namespace Go.Proofs.YtdaaddkipdmajaaGreatDoor
open Go Go.Am Go.Sp
set_option maxRecDepth 100000

theorem few53_c (s : Spend) : Pure Tryz.prog gl0 45 [s.av] (.bool (fewB s)) := few_c s

theorem gpowI_c (G : Grp) (a e : Int) (h : G.Ok) (hw : G.W) (ha : elemB G a = true) : Pure Tryz.prog gl0 48 [G.av, .int .i64 a, .int .i64 e] (.tup [.int .i64 (a ^ (e % G.q).toNat % G.p), .int .i64 0]) := by
  have c1 := gcheck1 G a h hw ha
  have x := elem_bnd h ha
  have k1 := h.p1; have k2 := h.qp; have k3 := h.q3
  have k4 : okv (chkI 0 0 G.q) (e % G.q) = e % G.q := by
    rw [chk_ok (by omega) (by omega) (by omega) (by omega) (by omega) (by omega)]
    rfl
  have k6 := Int.emod_nonneg e (by omega : G.q ≠ 0)
  have k7 := Int.emod_lt_of_pos e (by omega : 0 < G.q)
  have k5 := powE_0 (chk_ok (a := a) (b := a) (m := G.p) (by omega) (by omega) (by omega) (by omega) (by omega) (by omega)) (by omega : ¬ (e % G.q) < 0)
  refine pure_sk (own := ow0) Tryz.func48 (by kernel_rfl) mixed (by kernel_rfl)
    (.sc (true) 126 ([AV.agg [Zi G.1, Zi G.2, Zi G.3], AV.isl (1) (1) fun (r k : Nat) => atL (List.getD [[Zi a]] (r + 0) []) k]) (Zi 0) (.ff (.sc (true) 127 ([Zi e, Zi G.2]) (AV.tup [Zi (okv (chkI (0 : Int) (0 : Int) G.2) (e % G.2)), Zi (chkI (0 : Int) (0 : Int) G.2)]) (.sc (true) 128 ([Zi a, Zi (okv (chkI (0 : Int) (0 : Int) G.2) (e % G.2)), Zi G.1]) (AV.tup [Zi (okv (powE a (okv (chkI (0 : Int) (0 : Int) G.2) (e % G.2)) G.1) (a ^ Int.toNat (okv (chkI (0 : Int) (0 : Int) G.2) (e % G.2)) % G.1)), Zi (powE a (okv (chkI (0 : Int) (0 : Int) G.2) (e % G.2)) G.1)]) (.out (AV.tup [Zi (okv (powE a (okv (chkI (0 : Int) (0 : Int) G.2) (e % G.2)) G.1) (a ^ Int.toNat (okv (chkI (0 : Int) (0 : Int) G.2) (e % G.2)) % G.1)), Zi (powE a (okv (chkI (0 : Int) (0 : Int) G.2) (e % G.2)) G.1)]) [] (AV.tup [Zi (a ^ Int.toNat (e % Grp.q G) % Grp.p G), Zi 0]) [])))))
    (by kernel_rfl) ?_
  refine k_sc (c1) ?_
  refine k_ff ?_
  refine k_sc (wreduce_c (e) (G.2)) ?_
  refine k_sc (wpow_c (a) (okv (chkI (0 : Int) (0 : Int) G.2) (e % G.2)) (G.1) (by rw [k4]; omega)) ?_
  exact k_out (Ent.of_eq (by rw [k4, k5]; rfl))

theorem accuses_0 (b : Bas) (r : Rcd) (s : Spend) (u : Int) (hw : b.gr.W) (bs : s.By) (fs : ∀ k, k < s.np → byB (s.pf k) 32) (hv : vfy b r s = true) (he : claimE b s u = 0) :
    Pure Tryz.prog gl0 10 [b.av, r.av, s.av, .int .i64 u] (.bool true) := by
  have k := hd_of (vfy_hd hv)
  have K := validB_iff.1 k.v
  have hu := (claim_has he).u
  have q0 : 0 < b.gr.q := by have := K.G.q3; omega
  have q1 : b.gr.q < 2305843009213693952 := by have := K.G.qp; have := K.G.p1; omega
  have c1 := few53_c s
  have c2 := fun h h' => rvfy_c b r s hw bs.root bs.payee fs h h'
  rw [hv] at c2
  have c3 := fun h h' => claim_c b s u hw h h'
  rw [claim_gul he, he] at c3
  have c4 := fun h h' h2 => (xverify_c b (fun _ => rcL r) 1 s (claimT s u b.gr.q) (fromS s) (by decide) hw h h bs (claim_by bs) h' h' h2 h2).via (args := [_, _, _]) ⟨Ent.refl _, one_isl r, Ent.refl _, trivial⟩
  rw [acc_xB hv he] at c4
  have c5 := rchal_c b s.coin s.level s.index s.cxt bs.root bs.payee q0 q1
  have c6 := rchal_c b s.coin s.level s.index (claimT s u b.gr.q).cxt bs.root bs.payee q0 q1
  have c7 := gpow_c b.gr b.g1 u K.G hw K.e1 hu
  have c8 := gmul_c b.gr (b.g1 ^ u.toNat % b.gr.p) b.g2 K.G hw (elem_pow K.G K.e1 _) K.e2
  have c9 := gpowI_c b.gr s.a (IntKind.wrap .i64 (chalN b.gr.q s.coin s.level s.index (claimT s u b.gr.q).cxt - chalN b.gr.q s.coin s.level s.index s.cxt)) K.G hw k.a
  have f := fun h => few_np (s := s) h
  refine pure_sk (own := ow0) Tryz.func10 (by kernel_rfl) mixed (by kernel_rfl)
    (.sc (true) 27 ([]) (AV.bool true) (.ff (.sc (true) 45 ([AV.agg (Spend.cells s)]) (AV.bool (fewB s)) (.sc ((!fewB s) == false) 18 ([AV.agg (Bas.cells b), AV.agg (Rcd.cells r), AV.agg (Spend.cells s)]) (AV.bool true) (.br (!fewB s || false) (.out (AV.bool true) [] (AV.bool true) []) (.dc (true) 46 ([AV.agg (Bas.cells b), AV.agg (Spend.cells s), Zi u]) (AV.tup [gul s (claimT s u (Grp.q (Bas.gr b))) (fromS s), Zi 0]) (.ff (.sc (true) 37 ([AV.agg (Bas.cells b), AV.isl (11) (1) fun (r_1 k : Nat) => atL (List.getD [Rcd.cells r] (r_1 + 0) []) k, AV.agg (Spend.cells s ++ Zi s.1 :: Zi s.2 :: Zi s.3 :: Zi s.4 :: Zi s.5 :: (u8c s.6 ++ Zi s.7 :: Zi s.8 :: Zi s.9 :: Zi s.10 :: Zi s.11 :: Zi s.12 :: (u8c s.13 ++ [Zi s.14, Zi (s.15 + (1 : Int)), AV.isl (3) s.16 fun (i j : Nat) => Zi (claimL s u (Bas.gr b).2 i j), Zi s.18, AV.isl (32) s.19 fun (i j : Nat) => Zb (s.20 i j), Zi (fromS s)])))]) (AV.tup [Zi (xvK b (fun (x : Nat) => rcL r) (1 : Nat) s (claimT s u (Grp.q (Bas.gr b))) (fromS s)), AV.bool (accB b s u)]) (.sc (true) 47 ([AV.agg (Bas.cells b), AV.agg (Zi s.1 :: Zi s.2 :: Zi s.3 :: Zi s.4 :: Zi s.5 :: (u8c s.6 ++ [Zi s.7, Zi s.8, Zi s.9, Zi s.10])), AV.agg [Zi s.11, Zi s.12], AV.agg (u8c s.13 ++ [Zi s.14, Zi s.15])]) (Zi (chalN (Grp.q (Bas.gr b)) (Spend.coin s) (Spend.level s) (Spend.index s) (Spend.cxt s))) (.br (s.15 + (1 : Int) != IntKind.wrap IntKind.i64 (s.15 + (1 : Int))) (.out (AV.bool false) [] (AV.bool true) []) (.sc (true) 47 ([AV.agg (Bas.cells b), AV.agg (Zi s.1 :: Zi s.2 :: Zi s.3 :: Zi s.4 :: Zi s.5 :: (u8c s.6 ++ [Zi s.7, Zi s.8, Zi s.9, Zi s.10])), AV.agg [Zi s.11, Zi s.12], AV.agg (u8c s.13 ++ [Zi s.14, Zi (s.15 + (1 : Int))])]) (Zi (chalN (Grp.q (Bas.gr b)) (Spend.coin s) (Spend.level s) (Spend.index s) (Spend.cxt (claimT s u (Grp.q (Bas.gr b)))))) (.sc (true) 48 ([AV.agg [Zi (Bas.gr b).1, Zi (Bas.gr b).2, Zi (Bas.gr b).3], Zi b.2, Zi u]) (AV.tup [Zi (Bas.g1 b ^ Int.toNat u % Grp.p (Bas.gr b)), Zi 0]) (.sc (true) 49 ([AV.agg [Zi (Bas.gr b).1, Zi (Bas.gr b).2, Zi (Bas.gr b).3], Zi (b.2 ^ Int.toNat u % (Bas.gr b).1), Zi b.3]) (AV.tup [Zi (Bas.g1 b ^ Int.toNat u % Grp.p (Bas.gr b) * Bas.g2 b % Grp.p (Bas.gr b)), Zi 0]) (.sc (true) 48 ([AV.agg [Zi (Bas.gr b).1, Zi (Bas.gr b).2, Zi (Bas.gr b).3], Zi s.5, Zi (IntKind.wrap IntKind.i64 (chalN (Bas.gr b).2 (Spend.coin s) s.11 s.12 (Spend.cxt (claimT s u (Bas.gr b).2)) - chalN (Bas.gr b).2 (Spend.coin s) s.11 s.12 (Spend.cxt s)))]) (AV.tup [Zi (Spend.a s ^ Int.toNat (IntKind.wrap IntKind.i64 (chalN (Grp.q (Bas.gr b)) (Spend.coin s) (Spend.level s) (Spend.index s) (Spend.cxt (claimT s u (Grp.q (Bas.gr b)))) - chalN (Grp.q (Bas.gr b)) (Spend.coin s) (Spend.level s) (Spend.index s) (Spend.cxt s)) % Grp.q (Bas.gr b)) % Grp.p (Bas.gr b)), Zi 0]) (.ff (.out (AV.bool (accB b s u == (chalN (Bas.gr b).2 (Spend.coin s) s.11 s.12 (Spend.cxt s) != chalN (Bas.gr b).2 (Spend.coin s) s.11 s.12 (Spend.cxt (claimT s u (Bas.gr b).2)) && u != (0 : Int) && b.2 ^ Int.toNat u % (Bas.gr b).1 * b.3 % (Bas.gr b).1 != (1 : Int) && s.5 ^ Int.toNat (IntKind.wrap IntKind.i64 (chalN (Bas.gr b).2 (Spend.coin s) s.11 s.12 (Spend.cxt (claimT s u (Bas.gr b).2)) - chalN (Bas.gr b).2 (Spend.coin s) s.11 s.12 (Spend.cxt s)) % (Bas.gr b).2) % (Bas.gr b).1 == b.2 ^ Int.toNat u % (Bas.gr b).1 * b.3 % (Bas.gr b).1) && (!accB b s u || xvK b (fun (x : Nat) => rcL r) (1) s (claimT s u (Bas.gr b).2) (fromS s) == b.2 ^ Int.toNat u % (Bas.gr b).1))) [] (AV.bool true) []))))))))))))))))
    (by kernel_rfl) ?_
  refine k_sc (awake53_c) ?_
  refine k_ff ?_
  refine k_sc (c1) ?_
  refine k_scg (fun h3 => c2 (by (have q := f (by simpa using h3); omega)) (by (have q := f (by simpa using h3); omega))) ?_
  refine k_br (fun h4 => ?_) (fun h4 => ?_)
  · have g4 := (cnd_or_t (cnd_not_t cnd_id_f) cnd_id_t) h4
    exact k_out (Ent.of_eq rfl)
  · have g4 := (cnd_or_f (cnd_not_f cnd_id_t) cnd_id_f) h4
    refine k_dc (c3 (by (have q := f g4.1; omega)) (by (have q := f g4.1; omega))) ?_
    refine k_ff ?_
    refine k_sc (c4 (by (have q := f g4.1; omega)) (by (have q := f g4.1; omega)) (by assumption)) ?_
    refine k_sc (c5) ?_
    refine k_br (fun h10 => ?_) (fun h10 => ?_)
    · have g10 := cnd_bne_t h10
      exact k_out ((by exfalso; exact g10 (acc_num he).symm))
    · have g10 := cnd_bne_f h10
      refine k_sc (c6) ?_
      refine k_sc (c7) ?_
      refine k_sc (c8) ?_
      refine k_sc (c9) ?_
      refine k_ff ?_
      exact k_out (Ent.of_eq (congrArg AV.bool (acc_law hv he q0 q1)))

theorem accuses_2 (b : Bas) (r : Rcd) (s : Spend) (u : Int) (hw : b.gr.W) (bs : s.By) (fs : ∀ k, k < s.np → byB (s.pf k) 32) (hv : vfy b r s = true) (he : claimE b s u = 2) :
    Pure Tryz.prog gl0 10 [b.av, r.av, s.av, .int .i64 u] (.bool true) := by
  have c1 := few53_c s
  have c2 := fun h h' => rvfy_c b r s hw bs.root bs.payee fs h h'
  rw [hv] at c2
  have c3 := fun h h' => claim_c b s u hw h h'
  rw [claim_gul2 he, he] at c3
  have f := fun h => few_np (s := s) h
  refine pure_sk (own := ow0) Tryz.func10 (by kernel_rfl) mixed (by kernel_rfl)
    (.sc (true) 27 ([]) (AV.bool true) (.ff (.sc (true) 45 ([AV.agg (Spend.cells s)]) (AV.bool (fewB s)) (.sc ((!fewB s) == false) 18 ([AV.agg (Bas.cells b), AV.agg (Rcd.cells r), AV.agg (Spend.cells s)]) (AV.bool true) (.br (!fewB s || false) (.out (AV.bool true) [] (AV.bool true) []) (.dc (true) 46 ([AV.agg (Bas.cells b), AV.agg (Spend.cells s), Zi u]) (AV.tup [gul Spend.zero Spend.zero (0 : Int), Zi 2]) (.tt (.out (AV.bool true) [] (AV.bool true) []))))))))
    (by kernel_rfl) ?_
  refine k_sc (awake53_c) ?_
  refine k_ff ?_
  refine k_sc (c1) ?_
  refine k_scg (fun h3 => c2 (by (have q := f (by simpa using h3); omega)) (by (have q := f (by simpa using h3); omega))) ?_
  refine k_br (fun h4 => ?_) (fun h4 => ?_)
  · have g4 := (cnd_or_t (cnd_not_t cnd_id_f) cnd_id_t) h4
    exact k_out (Ent.of_eq rfl)
  · have g4 := (cnd_or_f (cnd_not_f cnd_id_t) cnd_id_f) h4
    refine k_dc (c3 (by (have q := f g4.1; omega)) (by (have q := f g4.1; omega))) ?_
    refine k_tt ?_
    exact k_out (Ent.of_eq rfl)

theorem accuses_f (b : Bas) (r : Rcd) (s : Spend) (u : Int) (hw : b.gr.W) (bs : s.By) (fs : ∀ k, k < s.np → byB (s.pf k) 32) (hv : vfy b r s = false) :
    Pure Tryz.prog gl0 10 [b.av, r.av, s.av, .int .i64 u] (.bool true) := by
  have c1 := few53_c s
  have c2 := fun h h' => rvfy_c b r s hw bs.root bs.payee fs h h'
  rw [hv] at c2
  have f := fun h => few_np (s := s) h
  refine pure_sk (own := ow0) Tryz.func10 (by kernel_rfl) mixed (by kernel_rfl)
    (.sc (true) 27 ([]) (AV.bool true) (.ff (.sc (true) 45 ([AV.agg (Spend.cells s)]) (AV.bool (fewB s)) (.sc ((!fewB s) == false) 18 ([AV.agg (Bas.cells b), AV.agg (Rcd.cells r), AV.agg (Spend.cells s)]) (AV.bool false) (.br (!fewB s || true) (.out (AV.bool true) [] (AV.bool true) []) .no)))))
    (by kernel_rfl) ?_
  refine k_sc (awake53_c) ?_
  refine k_ff ?_
  refine k_sc (c1) ?_
  refine k_scg (fun h3 => c2 (by (have q := f (by simpa using h3); omega)) (by (have q := f (by simpa using h3); omega))) ?_
  refine k_br (fun h4 => ?_) (fun h4 => ?_)
  · have g4 := (cnd_or_t (cnd_not_t cnd_id_f) cnd_id_t) h4
    exact k_out (Ent.of_eq rfl)
  · have g4 := (cnd_or_f (cnd_not_f cnd_id_t) cnd_id_f) h4
    exact (show False from (by simp at h4))

theorem rogueAccuses_c (b : Bas) (r : Rcd) (s : Spend) (u : Int) (hw : b.gr.W) (bs : s.By) (fs : ∀ k, k < s.np → byB (s.pf k) 32) :
    Pure Tryz.prog gl0 10 [b.av, r.av, s.av, .int .i64 u] (.bool true) := by
  cases hv : vfy b r s with
  | false => exact accuses_f b r s u hw bs fs hv
  | true =>
    rcases claim_cases b s u with h | h | h
    · exact accuses_0 b r s u hw bs fs hv h
    · exact absurd h (vfy_c1 hv)
    · exact accuses_2 b r s u hw bs fs hv h

end Go.Proofs.YtdaaddkipdmajaaGreatDoor

namespace Go.Sp
open Go Go.Am

def u8s (n : Nat) : List CT := List.replicate n (.int .u8)
def spendT : List CT := [.int .i64, .int .i64, .int .i64, .int .i64, .int .i64] ++ u8s 32 ++ [.int .i64, .int .i64, .int .i64, .int .i64, .int .i64, .int .i64] ++ u8s 32 ++ [.int .i64, .int .i64, .sl [.int .i64, .int .i64, .int .i64], .int .i64, .sl (u8s 32)]

def spendOf (g : Nat → AV) : Spend :=
  { bank := intOfAV (g 0), epoch := intOfAV (g 1), denom := intOfAV (g 2), depth := intOfAV (g 3), a := intOfAV (g 4), root := fun j => intOfAV (g (5 + j)),
    z := intOfAV (g 37), sa := intOfAV (g 38), sb := intOfAV (g 39), r := intOfAV (g 40), level := intOfAV (g 41), index := intOfAV (g 42), payee := fun j => intOfAV (g (43 + j)),
    time := intOfAV (g 75), number := intOfAV (g 76), nl := islN (g 77), lf := fun i j => intOfAV (islF (g 77) i j), pidx := intOfAV (g 78), np := islN (g 79), pf := fun i j => intOfAV (islF (g 79) i j) }

end Go.Sp

namespace Go.Sp
open Go Go.Am

def i64s (n : Nat) : List CT := List.replicate n (.int .i64)
end Go.Sp

namespace Go.Sp
open Go Go.Am
def basOf (g : Nat → AV) : Bas := ⟨⟨intOfAV (g 0), intOfAV (g 1), intOfAV (g 2)⟩, intOfAV (g 3), intOfAV (g 4), intOfAV (g 5)⟩
theorem cell_i64 {a : AV} (h : CellOk (.int .i64) a) : -9223372036854775808 ≤ intOfAV a ∧ intOfAV a ≤ 9223372036854775807 := by
  obtain ⟨h1, h2⟩ := (Lit.wf_int_iff _ _).1 h.int_inv
  exact ⟨Int.le_trans (by decide) h1, Int.le_trans h2 (by decide)⟩
theorem cell_u8 {a : AV} (h : CellOk (.int .u8) a) : 0 ≤ intOfAV a ∧ intOfAV a < 256 := by
  obtain ⟨h1, h2⟩ := (Lit.wf_int_iff _ _).1 h.int_inv
  exact ⟨Int.le_trans (by decide) h1, Int.lt_of_le_of_lt h2 (by decide)⟩
theorem u8_by {ts : List CT} {g : Nat → AV} {k n : Nat} (h : ∀ (j : Nat) c, ts[j]? = some c → CellOk c (g j)) (ht : ∀ j, j < n → ts[k + j]? = some (.int .u8)) : byB (fun j => intOfAV (g (k + j))) n := fun i hi => cell_u8 (h (k + i) _ (ht i hi))
theorem basOf_w {g : Nat → AV} (h : ∀ (j : Nat) c, (i64s 6)[j]? = some c → CellOk c (g j)) : (basOf g).gr.W :=
  ⟨(cell_i64 (h 0 _ rfl)).2, (cell_i64 (h 1 _ rfl)).2⟩
def spA : List CT := [.int .i64, .int .i64, .int .i64, .int .i64, .int .i64]
def spB : List CT := [.int .i64, .int .i64, .int .i64, .int .i64, .int .i64, .int .i64]
def spC : List CT := [.int .i64, .int .i64, .sl [.int .i64, .int .i64, .int .i64], .int .i64, .sl (u8s 32)]
theorem spendT_root : ∀ j, j < 32 → spendT[5 + j]? = some (.int .u8) := fun j hj => by
  show (((spA ++ u8s 32) ++ spB) ++ u8s 32 ++ spC)[5 + j]? = _
  rw [List.append_assoc, List.append_assoc, List.getElem?_append_left (by simp only [spA, u8s, List.length_append, List.length_replicate, List.length_cons, List.length_nil]; omega),
    List.getElem?_append_right (by show 5 ≤ _; omega)]
  unfold u8s
  rw [List.getElem?_replicate, if_pos (by show 5 + j - 5 < 32; omega)]
theorem spendT_payee : ∀ j, j < 32 → spendT[43 + j]? = some (.int .u8) := fun j hj => by
  show (((spA ++ u8s 32) ++ spB) ++ u8s 32 ++ spC)[43 + j]? = _
  have e : ((spA ++ u8s 32) ++ spB).length = 43 := by simp [spA, spB, u8s]
  rw [List.append_assoc, List.getElem?_append_right (by omega), e, List.getElem?_append_left (by simp only [u8s, List.length_replicate]; omega)]
  unfold u8s
  rw [List.getElem?_replicate, if_pos (by omega)]
theorem spend_by {g : Nat → AV} (h : ∀ (j : Nat) c, spendT[j]? = some c → CellOk c (g j)) : (spendOf g).By := ⟨u8_by (k := 5) h spendT_root, u8_by (k := 43) h spendT_payee⟩
end Go.Sp

namespace Go.Sp
open Go Go.Am
theorem u8s_i {k : Nat} (h : k < 32) : (u8s 32)[k]? = some (.int .u8) := by
  unfold u8s
  rw [List.getElem?_replicate, if_pos h]
theorem spend_pf {g : Nat → AV} (h : ∀ (j : Nat) c, spendT[j]? = some c → CellOk c (g j)) : ∀ k, k < (spendOf g).np → byB ((spendOf g).pf k) 32 :=
  fun j hj k hk => cell_u8 ((h 79 (.sl (u8s 32)) rfl).sl_inv.2 j k (.int .u8) hj (u8s_i hk))
end Go.Sp

namespace Go.Am
open Go

theorem laid_at {P : Program} {w : World} : ∀ {laid : List (String × DataW Unit)} {ps : List MemPlace}, DataW.LaidVars P w laid ps → ∀ {i : Nat} {n : String} {d : DataW Unit}, laid[i]? = some (n, d) →
    ∃ g t cs fuel p, P.globalNamed n = some g ∧ (P.globals[g]?).map (·.type) = some t ∧ w.var? P n = some cs ∧ DataW.trod (fun _ => ()) P w 0 (fun _ => true) false fuel t cs.toList = some (d, p)
  | [], _, _, i, n, d, h => by simp at h
  | (n', d') :: r, ps, ⟨g, t, cs, fuel, p, q, h1, h2, h3, h4, _, _⟩, 0, n, d, h => by
    simp only [List.getElem?_cons_zero, Option.some.injEq, Prod.mk.injEq] at h
    obtain ⟨rfl, rfl⟩ := h
    exact ⟨g, t, cs, fuel, p, h1, h2, h3, h4⟩
  | (n', d') :: r, ps, ⟨g, t, cs, fuel, p, q, h1, h2, h3, h4, h5, _⟩, i + 1, n, d, h => laid_at h5 (by simpa using h)

def arrOk (P : Program) (g n : Nat) (k : IntKind) : Bool :=
  match (P.globals[g]?).map (·.type) with
  | some t =>
    match P.underlying t with
    | some (.array m e) =>
      match P.underlying e with
      | some (.int k') => Nat.beq m n && Nat.beq (P.cellsOf e) 1 && decide (k' = k)
      | _ => false
    | _ => false
  | none => false
theorem arrOk_inv {P : Program} {g n : Nat} {k : IntKind} (h : arrOk P g n k = true) : ∃ t e, (P.globals[g]?).map (·.type) = some t ∧ P.underlying t = some (.array n e) ∧ P.underlying e = some (.int k) ∧ P.cellsOf e = 1 := by
  unfold arrOk at h
  split at h
  · rename_i t ht
    split at h
    · rename_i m e hu
      split at h
      · rename_i k' he
        simp only [Bool.and_eq_true, decide_eq_true_eq, Nat.beq_eq] at h
        obtain ⟨⟨rfl, h2⟩, rfl⟩ := h
        exact ⟨t, e, ht, hu, he, h2⟩
      · cases h
    · cases h
  · cases h

theorem glob_ints {P : Program} {w : World} {β : Book} {laid : List (String × DataW Unit)} (h : laidMetH P laid w) (hp : (laid.all fun x => x.2.handleName?.isNone) = true) (i : Nat) (name : String) {g n : Nat}
    {k : IntKind} {F : Nat → Int} (hl : laid[i]? = some (name, .agg ((List.range n).map fun j => .lit (.int k (F j))))) (hg : P.globalNamed name = some g) (ho : arrOk P g n k = true) (hn : 0 < n) (hb : β.free g) : Rel β w (.ipt n fun j => .int k (F j)) (.pointer (some ⟨g, 0, none⟩)) := by
  obtain ⟨t, e, ht, hu, he, hc⟩ := arrOk_inv ho
  rw [MakeChecks.laidMetH_plain _ _ _ hp] at h
  obtain ⟨ps, hv, _, _⟩ := h
  obtain ⟨g', t', cs, fuel, p, h1, h2, h3, h4⟩ := laid_at hv hl
  obtain rfl := Option.some.inj (hg.symm.trans h1)
  obtain rfl := Option.some.inj (ht.symm.trans h2)
  obtain ⟨xs, m, rfl, hx, hlen, hxl, hel⟩ := DataW.trod_array hu h4
  simp only [Prod.mk.injEq, DataW.agg.injEq] at hx
  obtain ⟨hx, _⟩ := hx
  have cell : ∀ j, j < n → cs[j]? = some (.int k (F j)) := fun j hj => by
    have hj' := hel j hj
    rw [hc, Nat.mul_one, List.getElem?_eq_getElem (by omega : j < xs.length)] at hj'
    obtain ⟨v, e1, e2, _⟩ := DataW.trod_int he hj'
    have e3 : (xs.map (·.1))[j]? = some (.lit (.int k v)) := by rw [List.getElem?_map, List.getElem?_eq_getElem (by omega : j < xs.length), e2]; rfl
    rw [← hx] at e3
    simp only [List.getElem?_map, List.getElem?_range hj, Option.map_some, Option.some.injEq, DataW.lit.injEq, Lit.int.injEq, true_and] at e3
    subst e3
    have e4 : (List.take 1 (List.drop j cs.toList))[0]? = some (.int k (F j)) := by rw [e1]; rfl
    rw [List.getElem?_take_of_lt (by decide), List.getElem?_drop, Nat.add_zero] at e4
    simpa using e4
  refine .ipt (fun j => .int k (F j)) hn hb (fun j hj => ?_) (fun _ _ => rfl) (fun _ _ => .int) (fun _ _ => .int)
  rw [World.var?_cell hg h3]
  simpa using cell j hj
end Go.Am
