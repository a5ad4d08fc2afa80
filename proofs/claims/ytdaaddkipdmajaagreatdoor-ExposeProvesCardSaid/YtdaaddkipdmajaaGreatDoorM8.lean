/- Part of the proof: FV14, FV15, Glt, FV16, FV17, FV18, Clm, Prv, FW1, Acc, Prv2, Prv3, FW2, FW3, SpOpen, SpOpenP, Args, Args3, EnGlob. -/
import Derived.Test.YtdaaddkipdmajaaGreatDoorM7
import Derived.Test.YtdaaddkipdmajaaGreatDoorProg
import Derived.Test.YtdaaddkipdmajaaGreatDoorM6
import Derived.Test.YtdaaddkipdmajaaGreatDoorM3
import Derived.Test.YtdaaddkipdmajaaGreatDoorM5
import Derived.Test.YtdaaddkipdmajaaGreatDoorM4
import Derived.DataShut
import Derived.OpenShut
import Derived.FnData
import Derived.MakeChecks
namespace Go.Proofs.YtdaaddkipdmajaaGreatDoor
open Go Go.Am Go.Sp
set_option maxRecDepth 100000

theorem containsF_c (n : Nat) (f : Nat → Int) (v : Int) (hn : n ≤ 1000) : Pure Tryz.prog gl0 72 [.isl 1 n fun i _ => .int .i64 (f i), .int .i64 v] (.bool (decide (v ∈ (List.range n).map f))) :=
  (containsN_c ((List.range n).map f) v (by simp; omega)).via ⟨map_ent, Ent.refl _, trivial⟩

theorem tverS_c (r h : Nat → Int) (i l : Int) (n : Nat) (P : Nat → Nat → Int) (hl : 0 ≤ l ∧ l ≤ 5) (hn : n ≤ 1000000) (hi : 0 ≤ i ∧ i < 2 ^ l.toNat) (hh : byB h 32) (hP : ∀ k, k < n → byB (P k) 32) :
    Pure Tryz.prog gl0 73 [.agg (u8c r), .agg (u8c h), .int .i64 l, .agg [.int .i64 i, hsl n P]] (.bool ((n : Int) == l && hEq (folF h i P n) r)) := by
  obtain ⟨m, rfl⟩ : ∃ m : Nat, l = m := ⟨l.toNat, by omega⟩
  have hi2 : i < ((2 ^ m : Nat) : Int) := by
    have := hi.2
    rw [show (m : Int).toNat = m by omega] at this
    rw [Int.natCast_pow]
    exact this
  by_cases e : n = m
  · subst e
    rw [show ((n : Int) == (n : Int)) = true by simp, Bool.true_and]
    exact tver_ok r h i n P (by omega) hi.1 hi2 hh hP
  · rw [show ((n : Int) == (m : Int)) = false by simp; omega, Bool.false_and]
    exact tver_no r h i m n P (by omega) e hn hi.1 hi2

theorem trootS_c (n d : Nat) (h : Nat → Nat → Int) (hn : n = 2 ^ d) (hd : d ≤ 5) (hb : ∀ i, i < n → byB (h i) 32) : Pure Tryz.prog gl0 58 [hsl n h] (.tup [.agg (u8c (treF h d 0)), .int .i64 0]) := by
  subst hn
  exact troot_c d hd h hb

theorem vfy_c (b : Bas) (r : Rcd) (s : Spend) (hw : b.gr.W) (hr : byB s.root 32) (hp : byB s.payee 32) (hf : ∀ k, k < s.np → byB (s.pf k) 32) (hn : s.np ≤ 1000000) (hl : s.nl ≤ 1000) : Pure Tryz.prog gl0 17 [b.av, r.av, s.av] (.bool (vfy b r s)) := by
  have c1 := cval_c b r s.coin hw hr
  have c2 := node_c s.depth s.level s.index
  have c3 := context_c s.cxt
  have c4 := chal_c b s.coin s.level s.index s.cxt hr hp
  have c5 := fun x r1 r2 hv ha hk => sright_c b s.a (chS b s) x r1 r2 hw hv ha hk
  have c6 := fun N h1 h2 h3 h4 => chash_n b N h1 h2 (lbF s) hw h3 h4
  have c7 := fun n h1 h2 h3 => trootS_c n (dpN s) (fun i => leafF (lbF s i)) h1 h2 h3
  have c8 := fun h1 h2 h3 => tverS_c s.root (topF s) s.pidx s.level s.np s.pf h1 hn h2 h3 hf
  refine pure_sk (own := ow0) Tryz.func17 (by kernel_rfl) mixed (by kernel_rfl)
    (.sc (true) 67 ([AV.agg (Bas.cells b), AV.agg (Rcd.cells r), AV.agg (Zi s.1 :: Zi s.2 :: Zi s.3 :: Zi s.4 :: Zi s.5 :: (u8c s.6 ++ [Zi s.7, Zi s.8, Zi s.9, Zi s.10]))]) (AV.bool (coinV b r (Spend.coin s))) (.sc ((!coinV b r (Spend.coin s)) == false) 68 ([Zi s.4, AV.agg [Zi s.11, Zi s.12]]) (AV.bool (nodeB (Spend.depth s) (Spend.level s) (Spend.index s))) (.sc ((!coinV b r (Spend.coin s) || !nodeB s.4 s.11 s.12) == false) 69 ([AV.agg (u8c s.13 ++ [Zi s.14, Zi s.15])]) (AV.bool (ctxB (Cxt.time (Spend.cxt s)) (Cxt.number (Spend.cxt s)))) (.req (((!coinV b r (Spend.coin s) || !nodeB s.4 s.11 s.12 || !ctxB s.14 s.15) == false) = true → (0 : Int) ≤ IntKind.wrap IntKind.i64 (s.4 - s.11)) (.br (!coinV b r (Spend.coin s) || !nodeB s.4 s.11 s.12 || !ctxB s.14 s.15 || (↑s.16 : Int) != IntKind.wrap IntKind.i64 ((1 : Int) * (2 : Int) ^ min (Int.toNat (IntKind.wrap IntKind.i64 (s.4 - s.11))) (64)) || s.18 != s.12) (.out (AV.bool false) [] (AV.bool (vfy b r s)) []) (.sc (true) 70 ([AV.agg (Bas.cells b), AV.agg (Zi s.1 :: Zi s.2 :: Zi s.3 :: Zi s.4 :: Zi s.5 :: (u8c s.6 ++ [Zi s.7, Zi s.8, Zi s.9, Zi s.10])), AV.agg [Zi s.11, Zi s.12], AV.agg (u8c s.13 ++ [Zi s.14, Zi s.15])]) (Zi (chalN (Grp.q (Bas.gr b)) (Spend.coin s) (Spend.level s) (Spend.index s) (Spend.cxt s))) (.loop ({ x : Nat // x ≤ Spend.nl s ∧ (fun (x : Nat) => ∀ (j : Nat), j < x → okL b s j = true) x }) (fun (x : { x : Nat // x ≤ Spend.nl s ∧ (fun (x : Nat) => ∀ (j : Nat), j < x → okL b s j = true) x }) => mkSt [2, 3, 5, 7, 67, 68, 8, 69] [AV.agg (Spend.cells s), AV.own (0) (6) (0) (0) (6), AV.own (1) (80) (0) (0) (80), Zi (chalN (Bas.gr b).2 (Spend.coin s) s.11 s.12 (Spend.cxt s)), AV.isl (3) s.16 fun (i j : Nat) => Zi (s.17 i j), Zi (↑s.16 : Int), AV.osl (2 : Nat) (1 : Nat) (0 : Nat) (x.1), Zi (↑(x.1) : Int)] [some ⟨6, 1, true, Rep.lst [Bas.cells b]⟩, some ⟨80, 1, true, Rep.lst [Spend.cells s]⟩, some ⟨(1 : Nat), x.1, true, Rep.fn fun (i x : Nat) => Zi (lbF s i)⟩]) (fun (x : { x : Nat // x ≤ Spend.nl s ∧ (fun (x : Nat) => ∀ (j : Nat), j < x → okL b s j = true) x }) => Spend.nl s - x.1) (⟨(0 : Nat), ⟨Nat.zero_le (Spend.nl s), fun (j : Nat) (hj : j < (0 : Nat)) => absurd hj (Nat.not_lt_zero j)⟩⟩) ([2, 3, 5, 7, 67, 68, 8, 69]) ([0, 16, 754]) ([AV.agg (Spend.cells s), AV.own (0) (6) (0) (0) (6), AV.own (1) (80) (0) (0) (80), Zi (chalN (Bas.gr b).2 (Spend.coin s) s.11 s.12 (Spend.cxt s)), AV.isl (3) s.16 fun (i j : Nat) => Zi (s.17 i j), Zi (↑s.16 : Int), AV.nsl, Zi 0]) ([some ⟨6, 1, true, Rep.lst [Bas.cells b]⟩, some ⟨80, 1, true, Rep.lst [Spend.cells s]⟩, some ⟨1, 0, true, Rep.lst []⟩]) (fun x7 => (.br (decide ((↑x7.1 : Int) < (↑s.16 : Int))) (.req ((0 : Int) ≤ (↑x7.1 : Int) ∧ (↑x7.1 : Int) < (↑s.16 : Int)) (.sc (true) 71 ([AV.agg (Bas.cells b), Zi s.5, Zi (chalN (Bas.gr b).2 (Spend.coin s) s.11 s.12 (Spend.cxt s)), AV.agg [Zi (s.17 (Int.toNat (↑x7.1 : Int)) (0)), Zi (s.17 (Int.toNat (↑x7.1 : Int)) (1)), Zi (s.17 (Int.toNat (↑x7.1 : Int)) (2))]]) (AV.bool (leafB b (Spend.a s) (chS b s) (s.17 (Int.toNat (↑x7.1 : Int)) (0)) (s.17 (Int.toNat (↑x7.1 : Int)) (1)) (s.17 (Int.toNat (↑x7.1 : Int)) (2)))) (.sc ((!leafB b s.5 (chS b s) (s.17 (Int.toNat (↑x7.1 : Int)) (0)) (s.17 (Int.toNat (↑x7.1 : Int)) (1)) (s.17 (Int.toNat (↑x7.1 : Int)) (2))) == false) 72 ([AV.isl (1) x7.1 fun (r k : Nat) => Zi (lbF s (r + 0)), Zi (s.17 (Int.toNat (↑x7.1 : Int)) (0))]) (AV.bool (decide (s.17 (Int.toNat (↑x7.1 : Int)) (0) ∈ List.map (fun (i : Nat) => lbF s (i + 0)) (List.range x7.1)))) (.br (!leafB b s.5 (chS b s) (s.17 (Int.toNat (↑x7.1 : Int)) (0)) (s.17 (Int.toNat (↑x7.1 : Int)) (1)) (s.17 (Int.toNat (↑x7.1 : Int)) (2)) || decide (s.17 (Int.toNat (↑x7.1 : Int)) (0) ∈ List.map (fun (i : Nat) => lbF s (i + 0)) (List.range x7.1))) (.out (AV.bool false) [] (AV.bool (vfy b r s)) []) (.req ((x7.1 + 1) * 8 ≤ 140737488355328) (.again (Again (0) (fun (x : { x : Nat // x ≤ Spend.nl s ∧ (fun (x : Nat) => ∀ (j : Nat), j < x → okL b s j = true) x }) => mkSt [2, 3, 5, 7, 67, 68, 8, 69] [AV.agg (Spend.cells s), AV.own (0) (6) (0) (0) (6), AV.own (1) (80) (0) (0) (80), Zi (chalN (Bas.gr b).2 (Spend.coin s) s.11 s.12 (Spend.cxt s)), AV.isl (3) s.16 fun (i j : Nat) => Zi (s.17 i j), Zi (↑s.16 : Int), AV.osl (2 : Nat) (1 : Nat) (0 : Nat) (x.1), Zi (↑(x.1) : Int)] [some ⟨6, 1, true, Rep.lst [Bas.cells b]⟩, some ⟨80, 1, true, Rep.lst [Spend.cells s]⟩, some ⟨(1 : Nat), x.1, true, Rep.fn fun (i x : Nat) => Zi (lbF s i)⟩]) (fun (x : { x : Nat // x ≤ Spend.nl s ∧ (fun (x : Nat) => ∀ (j : Nat), j < x → okL b s j = true) x }) => Spend.nl s - x.1) x7) ([2, 3, 5, 7, 67, 68, 8, 69]) ([0, 1, 187]) ([AV.agg (Spend.cells s), AV.own (0) (6) (0) (0) (6), AV.own (1) (80) (0) (0) (80), Zi (chalN (Bas.gr b).2 (Spend.coin s) s.11 s.12 (Spend.cxt s)), AV.isl (3) s.16 fun (i j : Nat) => Zi (s.17 i j), Zi (↑s.16 : Int), AV.osl (2) (1) (0) (x7.1 + 1), Zi (IntKind.wrap IntKind.i64 ((↑x7.1 : Int) + (1 : Int)))]) ([some ⟨6, 1, true, Rep.lst [Bas.cells b]⟩, some ⟨80, 1, true, Rep.lst [Spend.cells s]⟩, some ⟨1, x7.1 + 1, true, Rep.fn fun (i j : Nat) => Zi (bif Nat.blt i x7.1 then lbF s i else intOfAV (atL [Zi (s.17 (Int.toNat (↑(x7.1) : Int)) (0))] j))⟩]))))))) (.dc (true) 57 ([AV.agg (Bas.cells b), AV.isl (1) x7.1 fun (r k : Nat) => Zi (lbF s (r + 0))]) (AV.tup [hsl x7.1 fun (i : Nat) => leafF (lbF s i), Zi 0]) (.ff (.sc (true) 58 ([AV.isl (32) x7.1 fun (i j : Nat) => Zb (leafF (lbF s i) j)]) (AV.tup [AV.agg (u8c (treF (fun (i : Nat) => leafF (lbF s i)) (dpN s) (0 : Nat))), Zi 0]) (.sc (true) 73 ([AV.agg (u8c s.6), AV.agg (u8c (treF (fun (i : Nat) => leafF (lbF s i)) (dpN s) (0))), Zi s.11, AV.agg [Zi s.18, AV.isl (32) s.19 fun (i j : Nat) => Zb (s.20 i j)]]) (AV.bool ((↑(Spend.np s) : Int) == Spend.level s && hEq (folF (topF s) (Spend.pidx s) (Spend.pf s) (Spend.np s)) (Spend.root s))) (.out (AV.bool ((↑s.19 : Int) == s.11 && hEq (folF (topF s) s.18 s.20 s.19) s.6)) [] (AV.bool (vfy b r s)) []))))))))))))))
    (by kernel_rfl) ?_
  refine k_sc (c1) ?_
  refine k_scg (fun h1 => c2) ?_
  refine k_scg (fun h2 => c3) ?_
  refine k_req (fun hr => by have hr := (cnd_eqf_t (cnd_or_f (cnd_or_f (cnd_not_f cnd_id_t) (cnd_not_f cnd_id_t)) (cnd_not_f cnd_id_t))) hr; have k := node_t hr.1.2; have e := (sz_w hr.1.2).2.1; rw [e]; omega) ?_
  refine k_br (fun h4 => ?_) (fun h4 => ?_)
  · have g4 := (cnd_or_t (cnd_or_t (cnd_or_t (cnd_or_t (cnd_not_t cnd_id_f) (cnd_not_t cnd_id_f)) (cnd_not_t cnd_id_f)) cnd_bne_t) cnd_bne_t) h4
    exact k_out (Ent.of_eq (congrArg _ (hd_no g4).symm))
  · have g4 := (cnd_or_f (cnd_or_f (cnd_or_f (cnd_or_f (cnd_not_f cnd_id_t) (cnd_not_f cnd_id_t)) (cnd_not_f cnd_id_t)) cnd_bne_f) cnd_bne_f) h4
    refine k_sc (c4 (by (cases hd_ok g4; assumption)) (by (cases hd_ok g4; assumption))) ?_
    refine k_loop (fun _ hs => hs.le (by repeat' (first | exact trivial | (first | exact Ent.refl _ | exact inc_ent (by omega) | exact Ent.nil rfl | exact Ent.of_eq (congrArg (AV.osl _ _ _) (by first | omega | (dsimp only; omega))) | exact Ent.of_eq (congrArg (AV.int _) (by first | omega | (dsimp only; omega)))) | refine And.intro ?_ ?_)) (by repeat' (first | exact trivial | (first | exact ObEnt.refl _ | exact ObEnt.junk | exact ObEnt.zero | exact ObEnt.push rfl rfl | exact ObEnt.pushRow rfl | exact ObEnt.len (by omega) | exact ObEnt.row (by repeat' (first | exact trivial | (first | exact Ent.refl _ | exact inc_ent (by omega) | exact Ent.nil rfl | exact Ent.of_eq (congrArg (AV.osl _ _ _) (by first | omega | (dsimp only; omega))) | exact Ent.of_eq (congrArg (AV.int _) (by first | omega | (dsimp only; omega)))) | refine And.intro ?_ ?_))) | refine And.intro ?_ ?_))) (fun x7 => ?_)
    try (have q7 := x7.2; dsimp only at q7)
    refine k_br (fun h8 => ?_) (fun h8 => ?_)
    · have g8 := cnd_dec_t h8
      refine k_req (by omega) ?_
      refine k_sc (c5 (s.17 (Int.toNat (↑x7.1 : Int)) (0)) (s.17 (Int.toNat (↑x7.1 : Int)) (1)) (s.17 (Int.toNat (↑x7.1 : Int)) (2)) (by (cases hd_ok g4; assumption)) (by (cases hd_ok g4; assumption)) (by (cases hd_ok g4; assumption))) ?_
      refine k_scg (fun h11 => containsF_c (x7.1) (fun (i : Nat) => lbF s (i + 0)) (s.17 (Int.toNat (↑x7.1 : Int)) (0)) (by omega)) ?_
      refine k_br (fun h12 => ?_) (fun h12 => ?_)
      · have g12 := (cnd_or_t (cnd_not_t cnd_id_f) cnd_dec_t) h12
        try simp only [Int.toNat_natCast] at g12
        exact k_out (Ent.of_eq (congrArg _ (vfy_l (by omega) (okL_no g12)).symm))
      · have g12 := (cnd_or_f (cnd_not_f cnd_id_t) cnd_dec_f) h12
        try simp only [Int.toNat_natCast] at g12
        refine k_req (by omega) ?_
        exact k_again (⟨x7.1 + 1, by omega, all_next x7.2.2 (okL_yes g12)⟩) (fun _ hs => hs.le (by repeat' (first | exact trivial | (first | exact Ent.refl _ | exact inc_ent (by omega) | exact Ent.nil rfl | exact Ent.of_eq (congrArg (AV.osl _ _ _) (by first | omega | (dsimp only; omega))) | exact Ent.of_eq (congrArg (AV.int _) (by first | omega | (dsimp only; omega)))) | refine And.intro ?_ ?_)) (by repeat' (first | exact trivial | (first | exact ObEnt.refl _ | exact ObEnt.junk | exact ObEnt.zero | exact ObEnt.push rfl rfl | exact ObEnt.pushRow rfl | exact ObEnt.len (by omega) | exact ObEnt.row (by repeat' (first | exact trivial | (first | exact Ent.refl _ | exact inc_ent (by omega) | exact Ent.nil rfl | exact Ent.of_eq (congrArg (AV.osl _ _ _) (by first | omega | (dsimp only; omega))) | exact Ent.of_eq (congrArg (AV.int _) (by first | omega | (dsimp only; omega)))) | refine And.intro ?_ ?_))) | refine And.intro ?_ ?_))) (by (dsimp only; omega))
    · have g8 := cnd_dec_f h8
      refine k_dc (c6 (x7.1) (by (cases hd_ok g4; rw [show x7.1 = s.nl by omega]; assumption)) (by (cases hd_ok g4; rw [show x7.1 = s.nl by omega]; assumption)) (by (cases hd_ok g4; assumption)) (by exact fun i hi => okL_el (x7.2.2 i hi))) ?_
      refine k_ff ?_
      refine k_sc (c7 (x7.1) (by (cases hd_ok g4; rw [show x7.1 = s.nl by omega]; assumption)) (by (cases hd_ok g4; assumption)) (by exact fun i _ => leafF_by _)) ?_
      refine k_sc (c8 (by (cases hd_ok g4; assumption)) (by (cases hd_ok g4; assumption)) (by (cases hd_ok g4; assumption))) ?_
      exact k_out (Ent.of_eq (congrArg _ (vfy_t (hd_ok g4).hd (fun i hi => x7.2.2 i (by omega))).symm))

end Go.Proofs.YtdaaddkipdmajaaGreatDoor

namespace Go.Proofs.YtdaaddkipdmajaaGreatDoor
open Go Go.Am Go.Sp
set_option maxRecDepth 100000

theorem rtop_c (s : Spend) (n : Nat) (h1 : n = 2 ^ dpN s) (hd : dpN s ≤ 5) : Pure Tryz.prog gl0 76 [hsl n (fun i => leafF (lbF s i)), .int .i64 0, .int .i64 0] (.agg (u8c (topF s))) := by
  subst h1
  have h := tnode_c (dpN s) hd (fun i => leafF (lbF s i)) (fun i _ => leafF_by _) (dpN s) 0 (Nat.le_refl _) (by rw [Nat.sub_self]; decide)
  rwa [Nat.sub_self] at h

theorem rvfy_c (b : Bas) (r : Rcd) (s : Spend) (hw : b.gr.W) (hr : byB s.root 32) (hp : byB s.payee 32) (hf : ∀ k, k < s.np → byB (s.pf k) 32) (hn : s.np ≤ 1000000) (hl : s.nl ≤ 1000) : Pure Tryz.prog gl0 18 [b.av, r.av, s.av] (.bool (vfy b r s)) := by
  have c0 := r11valid_c b hw
  have c1 := rcval_c b r s.coin hw hr
  have c2 := rnode_c s.depth s.level s.index
  have c3 := rctx_c s.cxt
  have c9 := fun h => rspan_c s.depth s.level s.index h
  have c4 := rchal_c b s.coin s.level s.index s.cxt hr hp
  have c5 := fun x r1 r2 hv ha hk => rleaf_c b s.a (chS b s) x r1 r2 hv ha hk
  have c6 := fun n h1 => rhash_c n h1 (lbF s)
  have c7 := rtop_c s
  have c8 := fun h1 h2 h3 => rfol_c (topF s) s.pidx s.np s.pf hn h1 h2 h3 hf
  refine pure_sk (own := ow0) Tryz.func18 (by kernel_rfl) mixed (by kernel_rfl)
    (.sc (true) 19 ([AV.agg (Bas.cells b)]) (AV.bool (validB b)) (.sc ((!validB b) == false) 20 ([AV.agg (Bas.cells b), AV.agg (Rcd.cells r), AV.agg (Zi s.1 :: Zi s.2 :: Zi s.3 :: Zi s.4 :: Zi s.5 :: (u8c s.6 ++ [Zi s.7, Zi s.8, Zi s.9, Zi s.10]))]) (AV.bool (coinV b r (Spend.coin s))) (.sc ((!validB b || !coinV b r (Spend.coin s)) == false) 22 ([Zi s.4, AV.agg [Zi s.11, Zi s.12]]) (AV.bool (nodeB (Spend.depth s) (Spend.level s) (Spend.index s))) (.sc ((!validB b || !coinV b r (Spend.coin s) || !nodeB s.4 s.11 s.12) == false) 23 ([AV.agg (u8c s.13 ++ [Zi s.14, Zi s.15])]) (AV.bool (ctxB (Cxt.time (Spend.cxt s)) (Cxt.number (Spend.cxt s)))) (.br (!validB b || !coinV b r (Spend.coin s) || !nodeB s.4 s.11 s.12 || !ctxB s.14 s.15) (.out (AV.bool false) [] (AV.bool (vfy b r s)) []) (.sc (true) 63 ([Zi s.4, AV.agg [Zi s.11, Zi s.12]]) (AV.tup [Zi (spanA (Spend.depth s) (Spend.level s) (Spend.index s)), Zi (spanZ (Spend.depth s) (Spend.level s) (Spend.index s))]) (.br ((↑s.16 : Int) != IntKind.wrap IntKind.i64 (spanZ s.4 s.11 s.12 - spanA s.4 s.11 s.12) || s.18 != s.12 || (↑s.19 : Int) != s.11) (.out (AV.bool false) [] (AV.bool (vfy b r s)) []) (.sc (true) 47 ([AV.agg (Bas.cells b), AV.agg (Zi s.1 :: Zi s.2 :: Zi s.3 :: Zi s.4 :: Zi s.5 :: (u8c s.6 ++ [Zi s.7, Zi s.8, Zi s.9, Zi s.10])), AV.agg [Zi s.11, Zi s.12], AV.agg (u8c s.13 ++ [Zi s.14, Zi s.15])]) (Zi (chalN (Grp.q (Bas.gr b)) (Spend.coin s) (Spend.level s) (Spend.index s) (Spend.cxt s))) (.loop ({ x : Nat // x ≤ Spend.nl s ∧ (fun (x : Nat) => ∀ (j : Nat), j < x → okL b s j = true) x }) (fun (x : { x : Nat // x ≤ Spend.nl s ∧ (fun (x : Nat) => ∀ (j : Nat), j < x → okL b s j = true) x }) => mkSt [3, 5, 9, 10, 11] [AV.own (0) (6) (0) (0) (6), AV.own (1) (80) (0) (0) (80), Zi (chalN (Bas.gr b).2 (Spend.coin s) s.11 s.12 (Spend.cxt s)), AV.osl (2 : Nat) (1 : Nat) (0 : Nat) (x.1), Zi (↑(x.1) : Int)] [some ⟨6, 1, true, Rep.lst [Bas.cells b]⟩, some ⟨80, 1, true, Rep.lst [Spend.cells s]⟩, some ⟨(1 : Nat), x.1, true, Rep.fn fun (i x : Nat) => Zi (lbF s i)⟩]) (fun (x : { x : Nat // x ≤ Spend.nl s ∧ (fun (x : Nat) => ∀ (j : Nat), j < x → okL b s j = true) x }) => Spend.nl s - x.1) (⟨(0 : Nat), ⟨Nat.zero_le (Spend.nl s), fun (j : Nat) (hj : j < (0 : Nat)) => absurd hj (Nat.not_lt_zero j)⟩⟩) ([3, 5, 9, 10, 11]) ([0, 16, 882]) ([AV.own (0) (6) (0) (0) (6), AV.own (1) (80) (0) (0) (80), Zi (chalN (Bas.gr b).2 (Spend.coin s) s.11 s.12 (Spend.cxt s)), AV.nsl, Zi 0]) ([some ⟨6, 1, true, Rep.lst [Bas.cells b]⟩, some ⟨80, 1, true, Rep.lst [Spend.cells s]⟩, some ⟨1, 0, true, Rep.lst []⟩]) (fun x10 => (.br (decide ((↑x10.1 : Int) < (↑s.16 : Int))) (.req ((0 : Int) ≤ (↑x10.1 : Int) ∧ (↑x10.1 : Int) < (↑s.16 : Int)) (.sc (true) 74 ([AV.agg (Bas.cells b), Zi s.5, Zi (chalN (Bas.gr b).2 (Spend.coin s) s.11 s.12 (Spend.cxt s)), AV.agg [Zi (s.17 (Int.toNat (↑x10.1 : Int)) (0)), Zi (s.17 (Int.toNat (↑x10.1 : Int)) (1)), Zi (s.17 (Int.toNat (↑x10.1 : Int)) (2))]]) (AV.bool (leafB b (Spend.a s) (chS b s) (s.17 (Int.toNat (↑x10.1 : Int)) (0)) (s.17 (Int.toNat (↑x10.1 : Int)) (1)) (s.17 (Int.toNat (↑x10.1 : Int)) (2)))) (.br (!leafB b s.5 (chS b s) (s.17 (Int.toNat (↑x10.1 : Int)) (0)) (s.17 (Int.toNat (↑x10.1 : Int)) (1)) (s.17 (Int.toNat (↑x10.1 : Int)) (2))) (.out (AV.bool false) [] (AV.bool (vfy b r s)) []) (.loop ({ x : Nat // x ≤ x10.1 ∧ (fun (k : Nat) => ∀ (j : Nat), j < k → ¬lbF s j = lbF s (x10.1)) x }) (fun (x : { x : Nat // x ≤ x10.1 ∧ (fun (k : Nat) => ∀ (j : Nat), j < k → ¬lbF s j = lbF s (x10.1)) x }) => mkSt [3, 5, 9, 10, 11, 12] [AV.own (0) (6) (0) (0) (6), AV.own (1) (80) (0) (0) (80), Zi (chalN (Bas.gr b).2 (Spend.coin s) s.11 s.12 (Spend.cxt s)), AV.osl (2) (1) (0) x10.1, Zi (↑x10.1 : Int), Zi (↑(x.1) : Int)] [some ⟨6, 1, true, Rep.lst [Bas.cells b]⟩, some ⟨80, 1, true, Rep.lst [Spend.cells s]⟩, some ⟨1, x10.1, true, Rep.fn fun (i j : Nat) => Zi (lbF s i)⟩]) (fun (x : { x : Nat // x ≤ x10.1 ∧ (fun (k : Nat) => ∀ (j : Nat), j < k → ¬lbF s j = lbF s (x10.1)) x }) => x10.1 - x.1) (⟨(0 : Nat), ⟨Nat.zero_le (x10.1), fun (j : Nat) (hj : j < (0 : Nat)) => absurd hj (Nat.not_lt_zero j)⟩⟩) ([3, 5, 9, 10, 11, 12]) ([0, 1, 2]) ([AV.own (0) (6) (0) (0) (6), AV.own (1) (80) (0) (0) (80), Zi (chalN (Bas.gr b).2 (Spend.coin s) s.11 s.12 (Spend.cxt s)), AV.osl (2) (1) (0) x10.1, Zi (↑x10.1 : Int), Zi 0]) ([some ⟨6, 1, true, Rep.lst [Bas.cells b]⟩, some ⟨80, 1, true, Rep.lst [Spend.cells s]⟩, some ⟨1, x10.1, true, Rep.fn fun (i j : Nat) => Zi (lbF s i)⟩]) (fun x16 => (.br (decide ((↑x16.1 : Int) < (↑x10.1 : Int))) (.req ((0 : Int) ≤ (↑x16.1 : Int) ∧ (↑x16.1 : Int) < (↑s.16 : Int)) (.req ((0 : Int) ≤ (↑x10.1 : Int) ∧ (↑x10.1 : Int) < (↑s.16 : Int)) (.br (s.17 (Int.toNat (↑x16.1 : Int)) (0) == s.17 (Int.toNat (↑x10.1 : Int)) (0)) (.out (AV.bool false) [] (AV.bool (vfy b r s)) []) (.again (Again (0) (fun (x : { x : Nat // x ≤ x10.1 ∧ (fun (k : Nat) => ∀ (j : Nat), j < k → ¬lbF s j = lbF s (x10.1)) x }) => mkSt [3, 5, 9, 10, 11, 12] [AV.own (0) (6) (0) (0) (6), AV.own (1) (80) (0) (0) (80), Zi (chalN (Bas.gr b).2 (Spend.coin s) s.11 s.12 (Spend.cxt s)), AV.osl (2) (1) (0) x10.1, Zi (↑x10.1 : Int), Zi (↑(x.1) : Int)] [some ⟨6, 1, true, Rep.lst [Bas.cells b]⟩, some ⟨80, 1, true, Rep.lst [Spend.cells s]⟩, some ⟨1, x10.1, true, Rep.fn fun (i j : Nat) => Zi (lbF s i)⟩]) (fun (x : { x : Nat // x ≤ x10.1 ∧ (fun (k : Nat) => ∀ (j : Nat), j < k → ¬lbF s j = lbF s (x10.1)) x }) => x10.1 - x.1) x16) ([3, 5, 9, 10, 11, 12]) ([0, 1, 2]) ([AV.own (0) (6) (0) (0) (6), AV.own (1) (80) (0) (0) (80), Zi (chalN (Bas.gr b).2 (Spend.coin s) s.11 s.12 (Spend.cxt s)), AV.osl (2) (1) (0) x10.1, Zi (↑x10.1 : Int), Zi (IntKind.wrap IntKind.i64 ((↑x16.1 : Int) + (1 : Int)))]) ([some ⟨6, 1, true, Rep.lst [Bas.cells b]⟩, some ⟨80, 1, true, Rep.lst [Spend.cells s]⟩, some ⟨1, x10.1, true, Rep.fn fun (i j : Nat) => Zi (lbF s i)⟩]))))) (.req ((0 : Int) ≤ (↑x10.1 : Int) ∧ (↑x10.1 : Int) < (↑s.16 : Int)) (.req ((x10.1 + 1) * 8 ≤ 140737488355328) (.again (Again (0) (fun (x : { x : Nat // x ≤ Spend.nl s ∧ (fun (x : Nat) => ∀ (j : Nat), j < x → okL b s j = true) x }) => mkSt [3, 5, 9, 10, 11] [AV.own (0) (6) (0) (0) (6), AV.own (1) (80) (0) (0) (80), Zi (chalN (Bas.gr b).2 (Spend.coin s) s.11 s.12 (Spend.cxt s)), AV.osl (2 : Nat) (1 : Nat) (0 : Nat) (x.1), Zi (↑(x.1) : Int)] [some ⟨6, 1, true, Rep.lst [Bas.cells b]⟩, some ⟨80, 1, true, Rep.lst [Spend.cells s]⟩, some ⟨(1 : Nat), x.1, true, Rep.fn fun (i x : Nat) => Zi (lbF s i)⟩]) (fun (x : { x : Nat // x ≤ Spend.nl s ∧ (fun (x : Nat) => ∀ (j : Nat), j < x → okL b s j = true) x }) => Spend.nl s - x.1) x10) ([3, 5, 9, 10, 11]) ([0, 1, 91]) ([AV.own (0) (6) (0) (0) (6), AV.own (1) (80) (0) (0) (80), Zi (chalN (Bas.gr b).2 (Spend.coin s) s.11 s.12 (Spend.cxt s)), AV.osl (2) (1) (0) (x10.1 + 1), Zi (IntKind.wrap IntKind.i64 ((↑x10.1 : Int) + (1 : Int)))]) ([some ⟨6, 1, true, Rep.lst [Bas.cells b]⟩, some ⟨80, 1, true, Rep.lst [Spend.cells s]⟩, some ⟨1, x10.1 + 1, true, Rep.fn fun (i j : Nat) => Zi (bif Nat.blt i x10.1 then lbF s i else intOfAV (atL [Zi (s.17 (Int.toNat (↑x10.1 : Int)) (0))] j))⟩])))))))))) (.dc (true) 62 ([AV.isl (1) x10.1 fun (r k : Nat) => Zi (lbF s (r + 0))]) (hsl x10.1 fun (i : Nat) => leafF (lbF s i)) (.sc (true) 76 ([AV.isl (32) x10.1 fun (i j : Nat) => Zb (leafF (lbF s i) j), Zi 0, Zi 0]) (AV.agg (u8c (topF s))) (.sc (true) 75 ([AV.agg (u8c (topF s)), AV.agg [Zi s.18, AV.isl (32) s.19 fun (i j : Nat) => Zb (s.20 i j)]]) (AV.agg (u8c (folF (topF s) (Spend.pidx s) (Spend.pf s) (Spend.np s)))) (.out (AV.bool (folF (topF s) s.18 s.20 s.19 (0) == s.6 (0) && (folF (topF s) s.18 s.20 s.19 (1) == s.6 (1) && (folF (topF s) s.18 s.20 s.19 (2) == s.6 (2) && (folF (topF s) s.18 s.20 s.19 (3) == s.6 (3) && (folF (topF s) s.18 s.20 s.19 (4) == s.6 (4) && (folF (topF s) s.18 s.20 s.19 (5) == s.6 (5) && (folF (topF s) s.18 s.20 s.19 (6) == s.6 (6) && (folF (topF s) s.18 s.20 s.19 (7) == s.6 (7) && (folF (topF s) s.18 s.20 s.19 (8) == s.6 (8) && (folF (topF s) s.18 s.20 s.19 (9) == s.6 (9) && (folF (topF s) s.18 s.20 s.19 (10) == s.6 (10) && (folF (topF s) s.18 s.20 s.19 (11) == s.6 (11) && (folF (topF s) s.18 s.20 s.19 (12) == s.6 (12) && (folF (topF s) s.18 s.20 s.19 (13) == s.6 (13) && (folF (topF s) s.18 s.20 s.19 (14) == s.6 (14) && (folF (topF s) s.18 s.20 s.19 (15) == s.6 (15) && (folF (topF s) s.18 s.20 s.19 (16) == s.6 (16) && (folF (topF s) s.18 s.20 s.19 (17) == s.6 (17) && (folF (topF s) s.18 s.20 s.19 (18) == s.6 (18) && (folF (topF s) s.18 s.20 s.19 (19) == s.6 (19) && (folF (topF s) s.18 s.20 s.19 (20) == s.6 (20) && (folF (topF s) s.18 s.20 s.19 (21) == s.6 (21) && (folF (topF s) s.18 s.20 s.19 (22) == s.6 (22) && (folF (topF s) s.18 s.20 s.19 (23) == s.6 (23) && (folF (topF s) s.18 s.20 s.19 (24) == s.6 (24) && (folF (topF s) s.18 s.20 s.19 (25) == s.6 (25) && (folF (topF s) s.18 s.20 s.19 (26) == s.6 (26) && (folF (topF s) s.18 s.20 s.19 (27) == s.6 (27) && (folF (topF s) s.18 s.20 s.19 (28) == s.6 (28) && (folF (topF s) s.18 s.20 s.19 (29) == s.6 (29) && (folF (topF s) s.18 s.20 s.19 (30) == s.6 (30) && (folF (topF s) s.18 s.20 s.19 (31) == s.6 (31) && true))))))))))))))))))))))))))))))))) [] (AV.bool (vfy b r s)) [])))))))))))))))
    (by kernel_rfl) ?_
  refine k_sc (c0) ?_
  refine k_scg (fun h1 => c1) ?_
  refine k_scg (fun h2 => c2) ?_
  refine k_scg (fun h3 => c3) ?_
  refine k_br (fun h4 => ?_) (fun h4 => ?_)
  · have g4 := (cnd_or_t (cnd_or_t (cnd_or_t (cnd_not_t cnd_id_f) (cnd_not_t cnd_id_f)) (cnd_not_t cnd_id_f)) (cnd_not_t cnd_id_f)) h4
    exact k_out (Ent.of_eq (congrArg _ (rhd_no g4).symm))
  · have g4 := (cnd_or_f (cnd_or_f (cnd_or_f (cnd_not_f cnd_id_t) (cnd_not_f cnd_id_t)) (cnd_not_f cnd_id_t)) (cnd_not_f cnd_id_t)) h4
    refine k_sc (c9 (g4.1.2)) ?_
    refine k_br (fun h7 => ?_) (fun h7 => ?_)
    · have g7 := (cnd_or_t (cnd_or_t cnd_bne_t cnd_bne_t) cnd_bne_t) h7
      exact k_out (Ent.of_eq (congrArg _ (rhd_no2 g4 g7).symm))
    · have g7 := (cnd_or_f (cnd_or_f cnd_bne_f cnd_bne_f) cnd_bne_f) h7
      refine k_sc (c4 (by (cases rhd_ok g4 g7; assumption)) (by (cases rhd_ok g4 g7; assumption))) ?_
      refine k_loop (fun _ hs => hs.le (by repeat' (first | exact trivial | (first | exact Ent.refl _ | exact inc_ent (by omega) | exact Ent.nil rfl | exact Ent.of_eq (congrArg (AV.osl _ _ _) (by first | omega | (dsimp only; omega))) | exact Ent.of_eq (congrArg (AV.int _) (by first | omega | (dsimp only; omega)))) | refine And.intro ?_ ?_)) (by repeat' (first | exact trivial | (first | exact ObEnt.refl _ | exact ObEnt.junk | exact ObEnt.zero | exact ObEnt.push rfl rfl | exact ObEnt.pushRow rfl | exact ObEnt.len (by omega) | exact ObEnt.row (by repeat' (first | exact trivial | (first | exact Ent.refl _ | exact inc_ent (by omega) | exact Ent.nil rfl | exact Ent.of_eq (congrArg (AV.osl _ _ _) (by first | omega | (dsimp only; omega))) | exact Ent.of_eq (congrArg (AV.int _) (by first | omega | (dsimp only; omega)))) | refine And.intro ?_ ?_))) | refine And.intro ?_ ?_))) (fun x10 => ?_)
      try (have q10 := x10.2; dsimp only at q10)
      refine k_br (fun h11 => ?_) (fun h11 => ?_)
      · have g11 := cnd_dec_t h11
        refine k_req (by omega) ?_
        refine k_sc (c5 (s.17 (Int.toNat (↑x10.1 : Int)) (0)) (s.17 (Int.toNat (↑x10.1 : Int)) (1)) (s.17 (Int.toNat (↑x10.1 : Int)) (2)) (by exact validB_iff.1 (rhd_ok g4 g7).v) (by (cases rhd_ok g4 g7; assumption)) (by (cases rhd_ok g4 g7; assumption))) ?_
        refine k_br (fun h14 => ?_) (fun h14 => ?_)
        · have g14 := (cnd_not_t cnd_id_f) h14
          try simp only [Int.toNat_natCast] at g14
          exact k_out (Ent.of_eq (congrArg _ (vfy_l (by omega) (okL_l g14)).symm))
        · have g14 := (cnd_not_f cnd_id_t) h14
          try simp only [Int.toNat_natCast] at g14
          refine k_loop (fun _ hs => hs.le (by repeat' (first | exact trivial | (first | exact Ent.refl _ | exact inc_ent (by omega) | exact Ent.nil rfl | exact Ent.of_eq (congrArg (AV.osl _ _ _) (by first | omega | (dsimp only; omega))) | exact Ent.of_eq (congrArg (AV.int _) (by first | omega | (dsimp only; omega)))) | refine And.intro ?_ ?_)) (by repeat' (first | exact trivial | (first | exact ObEnt.refl _ | exact ObEnt.junk | exact ObEnt.zero | exact ObEnt.push rfl rfl | exact ObEnt.pushRow rfl | exact ObEnt.len (by omega) | exact ObEnt.row (by repeat' (first | exact trivial | (first | exact Ent.refl _ | exact inc_ent (by omega) | exact Ent.nil rfl | exact Ent.of_eq (congrArg (AV.osl _ _ _) (by first | omega | (dsimp only; omega))) | exact Ent.of_eq (congrArg (AV.int _) (by first | omega | (dsimp only; omega)))) | refine And.intro ?_ ?_))) | refine And.intro ?_ ?_))) (fun x16 => ?_)
          try (have q16 := x16.2; dsimp only at q16)
          refine k_br (fun h17 => ?_) (fun h17 => ?_)
          · have g17 := cnd_dec_t h17
            refine k_req (by omega) ?_
            refine k_req (by omega) ?_
            refine k_br (fun h20 => ?_) (fun h20 => ?_)
            · have g20 := cnd_beq_t h20
              try simp only [Int.toNat_natCast] at g20
              exact k_out (Ent.of_eq (congrArg _ (vfy_l (i := x10.1) (by omega) (okL_m (by omega) g20)).symm))
            · have g20 := cnd_beq_f h20
              try simp only [Int.toNat_natCast] at g20
              exact k_again (⟨x16.1 + 1, by omega, ne_next x16.2.2 g20⟩) (fun _ hs => hs.le (by repeat' (first | exact trivial | (first | exact Ent.refl _ | exact inc_ent (by omega) | exact Ent.nil rfl | exact Ent.of_eq (congrArg (AV.osl _ _ _) (by first | omega | (dsimp only; omega))) | exact Ent.of_eq (congrArg (AV.int _) (by first | omega | (dsimp only; omega)))) | refine And.intro ?_ ?_)) (by repeat' (first | exact trivial | (first | exact ObEnt.refl _ | exact ObEnt.junk | exact ObEnt.zero | exact ObEnt.push rfl rfl | exact ObEnt.pushRow rfl | exact ObEnt.len (by omega) | exact ObEnt.row (by repeat' (first | exact trivial | (first | exact Ent.refl _ | exact inc_ent (by omega) | exact Ent.nil rfl | exact Ent.of_eq (congrArg (AV.osl _ _ _) (by first | omega | (dsimp only; omega))) | exact Ent.of_eq (congrArg (AV.int _) (by first | omega | (dsimp only; omega)))) | refine And.intro ?_ ?_))) | refine And.intro ?_ ?_))) (by (dsimp only; omega))
          · have g17 := cnd_dec_f h17
            refine k_req (by omega) ?_
            refine k_req (by omega) ?_
            exact k_again (⟨x10.1 + 1, by omega, all_next x10.2.2 (okL_n g14 (fun j hj => x16.2.2 j (by omega)))⟩) (fun _ hs => hs.le (by repeat' (first | exact trivial | (first | exact Ent.refl _ | exact inc_ent (by omega) | exact Ent.nil rfl | exact Ent.of_eq (congrArg (AV.osl _ _ _) (by first | omega | (dsimp only; omega))) | exact Ent.of_eq (congrArg (AV.int _) (by first | omega | (dsimp only; omega)))) | refine And.intro ?_ ?_)) (by repeat' (first | exact trivial | (first | exact ObEnt.refl _ | exact ObEnt.junk | exact ObEnt.zero | exact ObEnt.push rfl rfl | exact ObEnt.pushRow rfl | exact ObEnt.len (by omega) | exact ObEnt.row (by repeat' (first | exact trivial | (first | exact Ent.refl _ | exact inc_ent (by omega) | exact Ent.nil rfl | exact Ent.of_eq (congrArg (AV.osl _ _ _) (by first | omega | (dsimp only; omega))) | exact Ent.of_eq (congrArg (AV.int _) (by first | omega | (dsimp only; omega)))) | refine And.intro ?_ ?_))) | refine And.intro ?_ ?_))) (by (dsimp only; omega))
      · have g11 := cnd_dec_f h11
        refine k_dc (c6 (x10.1) (by omega)) ?_
        refine k_sc (c7 (x10.1) (by (cases rhd_ok g4 g7; rw [show x10.1 = s.nl by omega]; assumption)) (by (cases rhd_ok g4 g7; assumption))) ?_
        refine k_sc (c8 (by (cases rhd_ok g4 g7; assumption)) (by (cases rhd_ok g4 g7; assumption)) (by (cases rhd_ok g4 g7; assumption))) ?_
        exact k_out (Ent.of_eq (congrArg _ (vfy_r (rhd_ok g4 g7).hd g7.2 (fun i hi => x10.2.2 i (by omega))).symm))

end Go.Proofs.YtdaaddkipdmajaaGreatDoor

namespace Go.Sp
open Go Go.Am
abbrev rcl (n : Nat) (R : Nat → Nat → Int) : AV := .isl 11 n fun i j => .int .i64 (R i j)
def rcdOf (f : Nat → Int) : Rcd := ⟨f 0, f 1, f 2, f 3, f 4, f 5, f 6, f 7, f 8, f 9, f 10⟩
def fnB (R : Nat → Nat → Int) (k e d : Int) (i : Nat) : Bool := R i 0 == k && R i 1 == e && R i 2 == d
def fnI (R : Nat → Nat → Int) (n : Nat) (k e d : Int) : Int := firstI (fnB R k e d) n 0
def fnS (R : Nat → Nat → Int) (n : Nat) (s : Spend) : Int := fnI R n s.bank s.epoch s.denom
def rcX (R : Nat → Nat → Int) (n : Nat) (s : Spend) : Rcd := bif decide (fnS R n s ≥ 0) then rcdOf (R (fnS R n s).toNat) else rcdOf fun _ => 0
def verd (b : Bas) (R : Nat → Nat → Int) (n : Nat) (s : Spend) : Bool := decide (fnS R n s ≥ 0) && vfy b (rcX R n s) s
theorem fnI_lt {R : Nat → Nat → Int} {n : Nat} {k e d : Int} (h : ¬ fnI R n k e d < 0) : 0 ≤ fnI R n k e d ∧ fnI R n k e d < n := by
  have := firstI_lt (p := fnB R k e d) n 0
  unfold fnI at *
  omega
theorem rcX_no {R : Nat → Nat → Int} {n : Nat} {s : Spend} (h : fnS R n s < 0) : rcX R n s = rcdOf fun _ => 0 := by
  unfold rcX; rw [decide_eq_false (by omega)]; rfl
theorem rcX_ok {R : Nat → Nat → Int} {n : Nat} {s : Spend} (h : ¬ fnS R n s < 0) : rcX R n s = rcdOf (R (fnS R n s).toNat) := by
  unfold rcX; rw [decide_eq_true (by omega)]; rfl
noncomputable def glK (b : Bas) (s t : Spend) (leaf : Int) : Int × Int :=
  if (secR b s t leaf).2 = 0 then (if (secR b s t leaf).1 = 0 ∨ msgI b (secR b s t leaf).1 = 1 then (0, 10) else (b.g1 ^ (secR b s t leaf).1.toNat % b.gr.p, 0)) else (0, (secR b s t leaf).2)
def vd2 (b : Bas) (R : Nat → Nat → Int) (n : Nat) (s t : Spend) : Bool := verd b R n s && verd b R n t
noncomputable def xvK (b : Bas) (R : Nat → Nat → Int) (n : Nat) (s t : Spend) (leaf : Int) : Int := bif vd2 b R n s t then (glK b s t leaf).1 else 0
noncomputable def xvB (b : Bas) (R : Nat → Nat → Int) (n : Nat) (s t : Spend) (leaf : Int) : Bool := vd2 b R n s t && (glK b s t leaf).2 == 0
theorem rec_no {R : Nat → Nat → Int} {n : Nat} {s : Spend} (h : fnS R n s < 0) : AV.tup [(rcdOf fun _ => 0).av, .bool false] = .tup [(rcX R n s).av, .bool (decide (fnS R n s ≥ 0))] := by
  rw [rcX_no h, decide_eq_false (by omega)]
theorem rec_ok {R : Nat → Nat → Int} {n : Nat} {s : Spend} (h : ¬ fnS R n s < 0) : AV.tup [(rcdOf (R (fnS R n s).toNat)).av, .bool true] = .tup [(rcX R n s).av, .bool (decide (fnS R n s ≥ 0))] := by
  rw [rcX_ok h, decide_eq_true (by omega)]
theorem fnB_t {R : Nat → Nat → Int} {k e d : Int} {i : Nat} (h : (R i 0 = k ∧ R i 1 = e) ∧ R i 2 = d) : fnB R k e d i = true := by unfold fnB; simp [h]
theorem fnB_f {R : Nat → Nat → Int} {k e d : Int} {i : Nat} (h : (¬ R i 0 = k ∨ ¬ R i 1 = e) ∨ ¬ R i 2 = d) : fnB R k e d i = false := by
  unfold fnB; rcases h with (h | h) | h <;> simp [h]
theorem secR_ok {b : Bas} {s t : Spend} {leaf : Int} (h : (secR b s t leaf).2 = 0) : b.Ok ∧ 0 ≤ (secR b s t leaf).1 ∧ (secR b s t leaf).1 < b.gr.q := by
  unfold secR at h ⊢
  split at h
  · cases h
  rename_i h0
  have hv : validB b = true := by
    cases hv : validB b with
    | true => rfl
    | false => exact absurd (.inl hv) h0
  have hq := validB_q hv
  rw [if_neg h0]
  split at h
  · cases h
  rename_i h1
  rw [if_neg h1]
  split at h
  · cases h
  rename_i h2
  rw [if_neg h2]
  split at h
  · cases h
  rename_i h3
  rw [if_neg h3]
  split at h
  · cases h
  rename_i h4
  rw [if_neg h4]
  split at h
  · cases h
  rename_i h5
  rw [if_neg h5]
  exact ⟨validB_iff.1 hv, Int.emod_nonneg _ (by omega), Int.emod_lt_of_pos _ hq.1⟩
theorem glK_1 {b : Bas} {s t : Spend} {leaf : Int} (h : ¬ (secR b s t leaf).2 = 0) : glK b s t leaf = (0, (secR b s t leaf).2) := if_neg h
theorem glK_2 {b : Bas} {s t : Spend} {leaf : Int} (h : (secR b s t leaf).2 = 0) (h' : (secR b s t leaf).1 = 0 ∨ msgI b (secR b s t leaf).1 = 1) : glK b s t leaf = (0, 10) := by
  unfold glK; rw [if_pos h, if_pos h']
theorem glK_3 {b : Bas} {s t : Spend} {leaf : Int} (h : (secR b s t leaf).2 = 0) (h' : ¬ (secR b s t leaf).1 = 0 ∧ ¬ msgI b (secR b s t leaf).1 = 1) : glK b s t leaf = (b.g1 ^ (secR b s t leaf).1.toNat % b.gr.p, 0) := by
  unfold glK; rw [if_pos h, if_neg (by simp [h'])]
theorem gl_out {b : Bas} {s t : Spend} {leaf : Int} {x : Int × Int} (h : glK b s t leaf = x) : AV.tup [.int .i64 x.1, .int .i64 x.2] = .tup [.int .i64 (glK b s t leaf).1, .int .i64 (glK b s t leaf).2] := by rw [h]
theorem okS_hd {b : Bas} {r : Rcd} {s : Spend} (h : hdB b r s = true) : okS s = true := by
  have k := hd_of h
  have hn := k.n
  have h0 := h
  unfold hdB at h
  simp only [Bool.and_eq_true] at h
  have hc := h.1.1.2
  have hsp := (span_d hn).1
  have hl : (s.nl : Int) = szR s := by rw [sz_r hn, k.l]
  unfold ctxB at hc
  simp only [Bool.and_eq_true, decide_eq_true_eq] at hc
  unfold okS
  rw [hsp, show ((s.nl : Int) != IntKind.wrap .i64 (spanZ s.depth s.level s.index - spanA s.depth s.level s.index)) = false by simpa using hl]
  simp
  omega
theorem vd_ok {b : Bas} {R : Nat → Nat → Int} {n : Nat} {s : Spend} (h : verd b R n s = true) : validB b = true ∧ okS s = true := by
  unfold verd vfy at h
  simp only [Bool.and_eq_true] at h
  have h := h.2.1.1
  exact ⟨(hd_of h).v, okS_hd h⟩
theorem xv_no {b : Bas} {R : Nat → Nat → Int} {n : Nat} {s t : Spend} {leaf : Int} (h : verd b R n s = false ∨ verd b R n t = false) : AV.tup [.int .i64 0, .bool false] = .tup [.int .i64 (xvK b R n s t leaf), .bool (xvB b R n s t leaf)] := by
  have e : vd2 b R n s t = false := by unfold vd2; rcases h with h | h <;> simp [h]
  unfold xvK xvB; rw [e]; rfl
theorem xv_yes {b : Bas} {R : Nat → Nat → Int} {n : Nat} {s t : Spend} {leaf : Int} (h : verd b R n s = true ∧ verd b R n t = true) : AV.tup [.int .i64 (glK b s t leaf).1, .bool ((glK b s t leaf).2 == 0)] = .tup [.int .i64 (xvK b R n s t leaf), .bool (xvB b R n s t leaf)] := by
  unfold xvK xvB vd2; rw [h.1, h.2]; rfl
theorem vd_t {b : Bas} {R : Nat → Nat → Int} {n : Nat} {s t : Spend} (h : (((fnS R n s ≥ 0 ∧ fnS R n t ≥ 0) ∧ vfy b (rcX R n s) s = true) ∧ vfy b (rcX R n t) t = true)) : verd b R n s = true ∧ verd b R n t = true := by
  unfold verd; rw [h.1.2, h.2, decide_eq_true h.1.1.1, decide_eq_true h.1.1.2]; exact ⟨rfl, rfl⟩
theorem xv_noR {b : Bas} {R : Nat → Nat → Int} {n : Nat} {s t : Spend} {leaf : Int} (h : (((¬ fnS R n s ≥ 0 ∨ ¬ fnS R n t ≥ 0) ∨ vfy b (rcX R n s) s = false) ∨ vfy b (rcX R n t) t = false)) : AV.tup [.int .i64 0, .bool false] = .tup [.int .i64 (xvK b R n s t leaf), .bool (xvB b R n s t leaf)] := by
  refine xv_no ?_
  unfold verd
  rcases h with ((h | h) | h) | h
  · exact .inl (by rw [decide_eq_false h]; rfl)
  · exact .inr (by rw [decide_eq_false h]; rfl)
  · exact .inl (by rw [h, Bool.and_false])
  · exact .inr (by rw [h, Bool.and_false])
theorem xv_g {b : Bas} {R : Nat → Nat → Int} {n : Nat} {s t : Spend} {leaf : Int} {x : Int × Int} (h : verd b R n s = true ∧ verd b R n t = true) (e : glK b s t leaf = x) : AV.tup [.int .i64 x.1, .bool (x.2 == 0)] = .tup [.int .i64 (xvK b R n s t leaf), .bool (xvB b R n s t leaf)] := by
  rw [← e]; exact xv_yes h
theorem xv_f {b : Bas} {R : Nat → Nat → Int} {n : Nat} {s t : Spend} {leaf : Int} (h : verd b R n s = true ∧ verd b R n t = true) (g : (¬ (secR b s t leaf).2 = 0 ∨ (secR b s t leaf).1 = 0) ∨ msgI b (secR b s t leaf).1 = 1) : AV.tup [.int .i64 0, .bool false] = .tup [.int .i64 (xvK b R n s t leaf), .bool (xvB b R n s t leaf)] := by
  by_cases h0 : (secR b s t leaf).2 = 0
  · refine xv_g (x := (0, 10)) h (glK_2 h0 ?_)
    rcases g with (g | g) | g
    · exact absurd h0 g
    · exact .inl g
    · exact .inr g
  · have := xv_g (leaf := leaf) h (glK_1 h0)
    rw [← this, show ((secR b s t leaf).2 == 0) = false by simpa using h0]
theorem xv_t {b : Bas} {R : Nat → Nat → Int} {n : Nat} {s t : Spend} {leaf : Int} (h : verd b R n s = true ∧ verd b R n t = true) (g : ((secR b s t leaf).2 = 0 ∧ ¬ (secR b s t leaf).1 = 0) ∧ ¬ msgI b (secR b s t leaf).1 = 1) : AV.tup [.int .i64 (b.g1 ^ (secR b s t leaf).1.toNat % b.gr.p), .bool true] = .tup [.int .i64 (xvK b R n s t leaf), .bool (xvB b R n s t leaf)] :=
  xv_g (x := (b.g1 ^ (secR b s t leaf).1.toNat % b.gr.p, 0)) h (glK_3 g.1.1 ⟨g.1.2, g.2⟩)
theorem sec_pow {b : Bas} {s t : Spend} {leaf : Int} (h : (secR b s t leaf).2 = 0) : 0 ≤ b.g1 ∧ b.g1 < b.gr.p ∧ 0 ≤ (secR b s t leaf).1 ∧ (secR b s t leaf).1 ≤ 9223372036854775807 ∧ b.gr.p < 2305843009213693952 := by
  have k := secR_ok h
  have e := el_bnd k.1.G k.1.e1
  have := k.1.G.p1
  have := k.1.G.qp
  omega
theorem few_pp {s t : Spend} (h : fewB s = true ∧ fewB t = true) : s.np ≤ 1000000 ∧ t.np ≤ 1000000 := by
  simp [fewB] at h
  omega
end Go.Sp

namespace Go.Proofs.YtdaaddkipdmajaaGreatDoor
open Go Go.Am Go.Sp
set_option maxRecDepth 100000

abbrev kFV160 : List AV := [AV.agg [Zi 0, Zi 0, Zi 0, Zi 0, Zi 0, Zi 0, Zi 0, Zi 0, Zi 0, Zi 0, Zi 0], AV.bool false]
theorem vfind1_c (r0 r1 r2 r3 r4 r5 r6 r7 r8 r9 r10 k e d : Int) : Pure Tryz.prog gl0 227 [.agg [.int .i64 r0, .int .i64 r1, .int .i64 r2, .int .i64 r3, .int .i64 r4, .int .i64 r5, .int .i64 r6, .int .i64 r7, .int .i64 r8, .int .i64 r9, .int .i64 r10], .ipt 1 (atL [.int .i64 k]), .ipt 1 (atL [.int .i64 e]), .ipt 1 (atL [.int .i64 d])] (.bool (r0 == k && r1 == e && r2 == d)) := by
  refine pure_sk (own := ow0) Tryz.func227 (by kernel_rfl) mixed (by kernel_rfl)
    (let y0 : AV := (AV.bool (r0 == k && r1 == e && r2 == d)); (.out y0 [] y0 []))
    (by kernel_rfl) ?_
  exact k_out (Ent.refl _)

theorem vindex_c (R : Nat → Nat → Int) (n : Nat) (k e d : Int) (hn : n ≤ 1000) : Pure Tryz.prog gl0 226 [rcl n R, .fn (.func 227) [] [.ipt 1 (atL [.int .i64 k]), .ipt 1 (atL [.int .i64 e]), .ipt 1 (atL [.int .i64 d])]] (.int .i64 (fnI R n k e d)) := by
  unfold fnI
  refine pure_sk (own := ow0) Tryz.func226 (by kernel_rfl) mixed (by kernel_rfl)
    (let y0 : List AV := [AV.ipt 1 (atL [Zi k]), AV.ipt 1 (atL [Zi e]), AV.ipt 1 (atL [Zi d])]; (.loop ({ x : Nat // x ≤ n ∧ (fun (i : Nat) => firstI (fnB R k e d) n 0 = firstI (fnB R k e d) (n - i) i) x }) (fun (x : { x : Nat // x ≤ n ∧ (fun (i : Nat) => firstI (fnB R k e d) n 0 = firstI (fnB R k e d) (n - i) i) x }) => mkSt [0, 1, 7, 8] [AV.isl 11 n fun (i j : Nat) => Zi (R i j), AV.fn (Fn.func (227 : FuncId)) [] y0, Zi (↑n : Int), Zi (↑(x.1) : Int)] []) (fun (x : { x : Nat // x ≤ n ∧ (fun (i : Nat) => firstI (fnB R k e d) n 0 = firstI (fnB R k e d) (n - i) i) x }) => n - x.1) (⟨0, ⟨Nat.zero_le n, rfl⟩⟩) ([0, 1, 7, 8]) ([]) ([AV.isl 11 n fun (i j : Nat) => Zi (R i j), AV.fn (Fn.func (227 : FuncId)) [] y0, Zi (↑n : Int), Zi 0]) ([]) (fun x0 => (.br (decide ((↑x0.1 : Int) < (↑n : Int))) (.req ((0 : Int) ≤ (↑x0.1 : Int) ∧ (↑x0.1 : Int) < (↑n : Int)) (.sc (true) 227 ([AV.agg [Zi (R (Int.toNat (↑x0.1 : Int)) 0), Zi (R (Int.toNat (↑x0.1 : Int)) 1), Zi (R (Int.toNat (↑x0.1 : Int)) 2), Zi (R (Int.toNat (↑x0.1 : Int)) 3), Zi (R (Int.toNat (↑x0.1 : Int)) 4), Zi (R (Int.toNat (↑x0.1 : Int)) 5), Zi (R (Int.toNat (↑x0.1 : Int)) 6), Zi (R (Int.toNat (↑x0.1 : Int)) 7), Zi (R (Int.toNat (↑x0.1 : Int)) 8), Zi (R (Int.toNat (↑x0.1 : Int)) 9), Zi (R (Int.toNat (↑x0.1 : Int)) 10)], AV.ipt 1 (atL [Zi k]), AV.ipt 1 (atL [Zi e]), AV.ipt 1 (atL [Zi d])]) (AV.bool (R (Int.toNat (↑x0.1 : Int)) 0 == k && R (Int.toNat (↑x0.1 : Int)) 1 == e && R (Int.toNat (↑x0.1 : Int)) 2 == d)) (.br (R (Int.toNat (↑x0.1 : Int)) 0 == k && R (Int.toNat (↑x0.1 : Int)) 1 == e && R (Int.toNat (↑x0.1 : Int)) 2 == d) (.out (Zi (↑x0.1 : Int)) [] (Zi (firstI (fnB R k e d) n 0)) []) (.again (Again 0 (fun (x : { x : Nat // x ≤ n ∧ (fun (i : Nat) => firstI (fnB R k e d) n 0 = firstI (fnB R k e d) (n - i) i) x }) => mkSt [0, 1, 7, 8] [AV.isl 11 n fun (i j : Nat) => Zi (R i j), AV.fn (Fn.func (227 : FuncId)) [] y0, Zi (↑n : Int), Zi (↑(x.1) : Int)] []) (fun (x : { x : Nat // x ≤ n ∧ (fun (i : Nat) => firstI (fnB R k e d) n 0 = firstI (fnB R k e d) (n - i) i) x }) => n - x.1) x0) ([0, 1, 7, 8]) ([]) ([AV.isl 11 n fun (i j : Nat) => Zi (R i j), AV.fn (Fn.func (227 : FuncId)) [] y0, Zi (↑n : Int), Zi (IntKind.wrap IntKind.i64 ((↑x0.1 : Int) + 1))]) ([]))))) (.out (Zi (-1)) [] (Zi (firstI (fnB R k e d) n 0)) [])))))
    (by kernel_rfl) ?_
  refine k_loop (fun _ hs => hs.le (⟨.refl _, .refl _, .refl _, .refl _, trivial⟩) (trivial)) (fun x0 => ?_)
  try (have q0 := x0.2; dsimp only at q0)
  refine k_br (fun h1 => ?_) (fun h1 => ?_)
  · have g1 := cnd_dec_t h1
    refine k_req (by omega) ?_
    refine k_sc (vfind1_c (R (Int.toNat (↑x0.1 : Int)) (0)) (R (Int.toNat (↑x0.1 : Int)) (1)) (R (Int.toNat (↑x0.1 : Int)) (2)) (R (Int.toNat (↑x0.1 : Int)) (3)) (R (Int.toNat (↑x0.1 : Int)) (4)) (R (Int.toNat (↑x0.1 : Int)) (5)) (R (Int.toNat (↑x0.1 : Int)) (6)) (R (Int.toNat (↑x0.1 : Int)) (7)) (R (Int.toNat (↑x0.1 : Int)) (8)) (R (Int.toNat (↑x0.1 : Int)) (9)) (R (Int.toNat (↑x0.1 : Int)) (10)) (k) (e) (d)) ?_
    refine k_br (fun h4 => ?_) (fun h4 => ?_)
    · have g4 := (cnd_and_t (cnd_and_t cnd_beq_t cnd_beq_t) cnd_beq_t) h4
      try simp only [Int.toNat_natCast] at g4
      exact k_out (Ent.of_eq (congrArg _ (first_hit x0.2.2 (by omega) h4)))
    · have g4 := (cnd_and_f (cnd_and_f cnd_beq_f cnd_beq_f) cnd_beq_f) h4
      try simp only [Int.toNat_natCast] at g4
      exact k_again (⟨x0.1 + 1, by omega, first_next x0.2.2 (by omega) h4⟩) (fun _ hs => hs.le (⟨.refl _, .refl _, .refl _, inc_ent (by omega), trivial⟩) (trivial)) (by dsimp only; omega)
  · have g1 := cnd_dec_f h1
    exact k_out (Ent.of_eq (congrArg _ (first_miss x0.2.2 (by omega))))

theorem vfind_c (R : Nat → Nat → Int) (n : Nat) (k e d : Int) (hn : n ≤ 1000) : Pure Tryz.prog gl0 182 [rcl n R, .int .i64 k, .int .i64 e, .int .i64 d] (.int .i64 (fnI R n k e d)) := by
  have c1 := vindex_c R n k e d hn
  refine pure_sk (own := ow0) Tryz.func182 (by kernel_rfl) mixed (by kernel_rfl)
    (.sc (true) 226 ([AV.isl 11 n fun (i j : Nat) => Zi (R i j), AV.fn (Fn.func 227) [] [AV.ipt 1 fun (k_1 : Nat) => atL [Zi k] k_1, AV.ipt 1 fun (k : Nat) => atL [Zi e] k, AV.ipt 1 fun (k : Nat) => atL [Zi d] k]]) (Zi (fnI R n k e d)) (.out (Zi (fnI R n k e d)) [] (Zi (fnI R n k e d)) []))
    (by kernel_rfl) ?_
  refine k_sc (c1) ?_
  exact k_out (Ent.refl _)

theorem rvfind_c (R : Nat → Nat → Int) (n : Nat) (k e d : Int) (hn : n ≤ 1000) : Pure Tryz.prog gl0 177 [rcl n R, .int .i64 k, .int .i64 e, .int .i64 d] (.int .i64 (fnI R n k e d)) := by
  unfold fnI
  refine pure_sk (own := ow0) Tryz.func177 (by kernel_rfl) mixed (by kernel_rfl)
    (.loop ({ x : Nat // x ≤ n ∧ (fun (i : Nat) => firstI (fnB R k e d) n 0 = firstI (fnB R k e d) (n - i) i) x }) (fun (x : { x : Nat // x ≤ n ∧ (fun (i : Nat) => firstI (fnB R k e d) n 0 = firstI (fnB R k e d) (n - i) i) x }) => mkSt [0, 1, 2, 3, 9] [AV.isl 11 n fun (i j : Nat) => Zi (R i j), Zi k, Zi e, Zi d, Zi (↑(x.1) : Int)] []) (fun (x : { x : Nat // x ≤ n ∧ (fun (i : Nat) => firstI (fnB R k e d) n 0 = firstI (fnB R k e d) (n - i) i) x }) => n - x.1) (⟨0, ⟨Nat.zero_le n, rfl⟩⟩) ([0, 1, 2, 3, 9]) ([]) ([AV.isl 11 n fun (i j : Nat) => Zi (R i j), Zi k, Zi e, Zi d, Zi 0]) ([]) (fun x0 => (.br (decide ((↑x0.1 : Int) < (↑n : Int))) (.req ((0 : Int) ≤ (↑x0.1 : Int) ∧ (↑x0.1 : Int) < (↑n : Int)) (.req (((R (Int.toNat (↑x0.1 : Int)) 0 == k) == true) = true → (0 : Int) ≤ (↑x0.1 : Int) ∧ (↑x0.1 : Int) < (↑n : Int)) (.req (((R (Int.toNat (↑x0.1 : Int)) 0 == k && R (Int.toNat (↑x0.1 : Int)) 1 == e) == true) = true → (0 : Int) ≤ (↑x0.1 : Int) ∧ (↑x0.1 : Int) < (↑n : Int)) (.br (R (Int.toNat (↑x0.1 : Int)) 0 == k && R (Int.toNat (↑x0.1 : Int)) 1 == e && R (Int.toNat (↑x0.1 : Int)) 2 == d) (.out (Zi (↑x0.1 : Int)) [] (Zi (firstI (fnB R k e d) n 0)) []) (.again (Again 0 (fun (x : { x : Nat // x ≤ n ∧ (fun (i : Nat) => firstI (fnB R k e d) n 0 = firstI (fnB R k e d) (n - i) i) x }) => mkSt [0, 1, 2, 3, 9] [AV.isl 11 n fun (i j : Nat) => Zi (R i j), Zi k, Zi e, Zi d, Zi (↑(x.1) : Int)] []) (fun (x : { x : Nat // x ≤ n ∧ (fun (i : Nat) => firstI (fnB R k e d) n 0 = firstI (fnB R k e d) (n - i) i) x }) => n - x.1) x0) ([0, 1, 2, 3, 9]) ([]) ([AV.isl 11 n fun (i j : Nat) => Zi (R i j), Zi k, Zi e, Zi d, Zi (IntKind.wrap IntKind.i64 ((↑x0.1 : Int) + 1))]) ([])))))) (.out (Zi (-1)) [] (Zi (firstI (fnB R k e d) n 0)) []))))
    (by kernel_rfl) ?_
  refine k_loop (fun _ hs => hs.le (⟨.refl _, .refl _, .refl _, .refl _, .refl _, trivial⟩) (trivial)) (fun x0 => ?_)
  try (have q0 := x0.2; dsimp only at q0)
  refine k_br (fun h1 => ?_) (fun h1 => ?_)
  · have g1 := cnd_dec_t h1
    refine k_req (by omega) ?_
    refine k_req (fun hr => by have hr := (cnd_eqt_t cnd_beq_t) hr; omega) ?_
    refine k_req (fun hr => by have hr := (cnd_eqt_t (cnd_and_t cnd_beq_t cnd_beq_t)) hr; omega) ?_
    refine k_br (fun h5 => ?_) (fun h5 => ?_)
    · have g5 := (cnd_and_t (cnd_and_t cnd_beq_t cnd_beq_t) cnd_beq_t) h5
      try simp only [Int.toNat_natCast] at g5
      exact k_out (by exact Ent.of_eq (congrArg _ (first_hit x0.2.2 (by omega) (fnB_t g5))))
    · have g5 := (cnd_and_f (cnd_and_f cnd_beq_f cnd_beq_f) cnd_beq_f) h5
      try simp only [Int.toNat_natCast] at g5
      exact k_again (⟨x0.1 + 1, by omega, first_next x0.2.2 (by omega) (fnB_f g5)⟩) (fun _ hs => hs.le (⟨.refl _, .refl _, .refl _, .refl _, inc_ent (by omega), trivial⟩) (trivial)) (by dsimp only; omega)
  · have g1 := cnd_dec_f h1
    exact k_out (by exact Ent.of_eq (congrArg _ (first_miss x0.2.2 (by omega))))

theorem vrec_c (R : Nat → Nat → Int) (n : Nat) (s : Spend) (hn : n ≤ 1000) : Pure Tryz.prog gl0 105 [rcl n R, s.av] (.tup [(rcX R n s).av, .bool (decide (fnS R n s ≥ 0))]) := by
  have c1 := vfind_c R n s.bank s.epoch s.denom hn
  refine pure_sk (own := ow0) Tryz.func105 (by kernel_rfl) mixed (by kernel_rfl)
    (let y0 : Nat := (Int.toNat (fnI R n s.1 s.2 s.3)); let y1 : AV := (AV.tup [Rcd.av (rcX R n s), AV.bool (decide (fnS R n s ≥ 0))]); (.sc (true) 182 ([AV.isl 11 n fun (i j : Nat) => Zi (R i j), Zi s.1, Zi s.2, Zi s.3]) (Zi (fnI R n (Spend.bank s) (Spend.epoch s) (Spend.denom s))) (.br (decide (fnI R n s.1 s.2 s.3 < 0) || decide (fnI R n s.1 s.2 s.3 ≥ (↑n : Int))) (.out (AV.tup kFV160) [] y1 []) (.req ((0 : Int) ≤ fnI R n s.1 s.2 s.3 ∧ fnI R n s.1 s.2 s.3 < (↑n : Int)) (.out (AV.tup [AV.agg [Zi (R y0 0), Zi (R y0 1), Zi (R y0 2), Zi (R y0 3), Zi (R y0 4), Zi (R y0 5), Zi (R y0 6), Zi (R y0 7), Zi (R y0 8), Zi (R y0 9), Zi (R y0 10)], AV.bool true]) [] y1 [])))))
    (by kernel_rfl) ?_
  refine k_sc (c1) ?_
  refine k_br (fun h1 => ?_) (fun h1 => ?_)
  · have g1 := (cnd_or_t cnd_dec_t cnd_dec_t) h1
    exact k_out (Ent.of_eq (rec_no (s := s) (by (rcases g1 with h | h; (· exact h); (· exfalso; have := firstI_lt (p := fnB R s.bank s.epoch s.denom) n 0; unfold fnI at h; omega)))))
  · have g1 := (cnd_or_f cnd_dec_f cnd_dec_f) h1
    refine k_req (by exact fnI_lt g1.1) ?_
    exact k_out (Ent.of_eq (rec_ok (s := s) (by exact g1.1)))

theorem rvrec_c (R : Nat → Nat → Int) (n : Nat) (s : Spend) (hn : n ≤ 1000) : Pure Tryz.prog gl0 101 [rcl n R, s.av] (.tup [(rcX R n s).av, .bool (decide (fnS R n s ≥ 0))]) := by
  have c1 := rvfind_c R n s.bank s.epoch s.denom hn
  refine pure_sk (own := ow0) Tryz.func101 (by kernel_rfl) mixed (by kernel_rfl)
    (let y0 : Nat := (Int.toNat (fnI R n s.1 s.2 s.3)); let y1 : AV := (AV.tup [Rcd.av (rcX R n s), AV.bool (decide (fnS R n s ≥ 0))]); (.sc (true) 177 ([AV.isl 11 n fun (i j : Nat) => Zi (R i j), Zi s.1, Zi s.2, Zi s.3]) (Zi (fnI R n (Spend.bank s) (Spend.epoch s) (Spend.denom s))) (.br (decide (fnI R n s.1 s.2 s.3 < 0)) (.out (AV.tup kFV160) [] y1 []) (.req ((0 : Int) ≤ fnI R n s.1 s.2 s.3 ∧ fnI R n s.1 s.2 s.3 < (↑n : Int)) (.out (AV.tup [AV.agg [Zi (R y0 0), Zi (R y0 1), Zi (R y0 2), Zi (R y0 3), Zi (R y0 4), Zi (R y0 5), Zi (R y0 6), Zi (R y0 7), Zi (R y0 8), Zi (R y0 9), Zi (R y0 10)], AV.bool true]) [] y1 [])))))
    (by kernel_rfl) ?_
  refine k_sc (c1) ?_
  refine k_br (fun h1 => ?_) (fun h1 => ?_)
  · have g1 := cnd_dec_t h1
    exact k_out (Ent.of_eq (rec_no (s := s) (by exact g1)))
  · have g1 := cnd_dec_f h1
    refine k_req (by exact fnI_lt g1) ?_
    exact k_out (Ent.of_eq (rec_ok (s := s) (by exact g1)))

theorem vver_c (b : Bas) (R : Nat → Nat → Int) (n : Nat) (s : Spend) (hn : n ≤ 1000) (hw : b.gr.W) (hr : byB s.root 32) (hp : byB s.payee 32) (hf : ∀ k, k < s.np → byB (s.pf k) 32) (hm : s.np ≤ 1000000) (hl : s.nl ≤ 1000) : Pure Tryz.prog gl0 99 [b.av, rcl n R, s.av] (.bool (verd b R n s)) := by
  have c1 := vrec_c R n s hn
  have c2 := vfy_c b (rcX R n s) s hw hr hp hf hm hl
  refine pure_sk (own := ow0) Tryz.func99 (by kernel_rfl) mixed (by kernel_rfl)
    (.sc (true) 105 ([AV.isl 11 n fun (i j : Nat) => Zi (R i j), AV.agg (Spend.cells s)]) (AV.tup [Rcd.av (rcX R n s), AV.bool (decide (fnS R n s ≥ 0))]) (.sc (decide (fnS R n s ≥ 0) == true) 17 ([AV.agg (Bas.cells b), AV.agg (Rcd.cells (rcX R n s)), AV.agg (Spend.cells s)]) (AV.bool (vfy b (rcX R n s) s)) (.out (AV.bool (decide (fnS R n s ≥ 0) && vfy b (rcX R n s) s)) [] (AV.bool (verd b R n s)) [])))
    (by kernel_rfl) ?_
  refine k_sc (c1) ?_
  refine k_scg (fun h1 => c2) ?_
  exact k_out (Ent.refl _)

theorem guilty_c (b : Bas) (s t : Spend) (leaf : Int) (hw : b.gr.W) (hs : s.nl ≤ 1000) (ht : t.nl ≤ 1000) (bs : s.By) (bt : t.By) : Pure Tryz.prog gl0 100 [b.av, s.av, t.av, .int .i64 leaf] (.tup [.int .i64 (glK b s t leaf).1, .int .i64 (glK b s t leaf).2]) := by
  have c1 := secret_c b s t leaf hw hs ht bs bt
  have c2 := fun h hu => message_c b (secR b s t leaf).1 h hw hu
  have c3 := fun h h2 hu => gpow_c b.gr b.g1 (secR b s t leaf).1 h hw h2 hu
  refine pure_sk (own := ow0) Tryz.func100 (by kernel_rfl) mixed (by kernel_rfl)
    (let y0 : AV := (AV.tup [Zi (Prod.fst (glK b s t leaf)), Zi (Prod.snd (glK b s t leaf))]); (.sc (true) 44 ([AV.agg (Bas.cells b), AV.agg (Spend.cells s), AV.agg (Spend.cells t), Zi leaf]) (AV.tup [Zi (Prod.fst (secR b s t leaf)), Zi (Prod.snd (secR b s t leaf))]) (.br ((secR b s t leaf).2 != 0) (.out (AV.tup [Zi 0, Zi (secR b s t leaf).2]) [] y0 []) (.sc (((secR b s t leaf).1 == 0) == false) 176 ([AV.agg (Bas.cells b), Zi (secR b s t leaf).1]) (Zi (msgI b (Prod.fst (secR b s t leaf)))) (.br ((secR b s t leaf).1 == 0 || msgI b (secR b s t leaf).1 == 1) (.out (AV.tup [Zi 0, Zi 10]) [] y0 []) (.sc (true) 48 ([AV.agg [Zi (Bas.gr b).1, Zi (Bas.gr b).2, Zi (Bas.gr b).3], Zi b.2, Zi (secR b s t leaf).1]) (AV.tup [Zi (Bas.g1 b ^ Int.toNat (Prod.fst (secR b s t leaf)) % Grp.p (Bas.gr b)), Zi 0]) (.out (AV.tup [Zi (b.2 ^ Int.toNat (secR b s t leaf).1 % (Bas.gr b).1), Zi 0]) [] y0 [])))))))
    (by kernel_rfl) ?_
  refine k_sc (c1) ?_
  refine k_br (fun h1 => ?_) (fun h1 => ?_)
  · have g1 := cnd_bne_t h1
    exact k_out (Ent.of_eq (gl_out (x := (0, (secR b s t leaf).2)) (glK_1 g1)))
  · have g1 := cnd_bne_f h1
    refine k_scg (fun h3 => c2 (by exact (secR_ok g1).1) (by exact (secR_ok g1).2)) ?_
    refine k_br (fun h4 => ?_) (fun h4 => ?_)
    · have g4 := (cnd_or_t cnd_beq_t cnd_beq_t) h4
      exact k_out (Ent.of_eq (gl_out (glK_2 g1 g4)))
    · have g4 := (cnd_or_f cnd_beq_f cnd_beq_f) h4
      refine k_sc (c3 (by exact (secR_ok g1).1.G) (by exact (secR_ok g1).1.e1) (by exact (secR_ok g1).2)) ?_
      exact k_out (Ent.of_eq (gl_out (glK_3 g1 g4)))

end Go.Proofs.YtdaaddkipdmajaaGreatDoor

namespace Go.Proofs.YtdaaddkipdmajaaGreatDoor
open Go Go.Am Go.Sp
set_option maxRecDepth 100000

theorem rxverify_c (b : Bas) (R : Nat → Nat → Int) (n : Nat) (s t : Spend) (leaf : Int) (h0 : leaf ≤ 9223372036854775807) (hn : n ≤ 1000) (hw : b.gr.W) (hs : s.nl ≤ 1000) (ht : t.nl ≤ 1000) (bs : s.By) (bt : t.By) (ps : s.np ≤ 1000000) (pt : t.np ≤ 1000000) (fs : ∀ k, k < s.np → byB (s.pf k) 32) (ft : ∀ k, k < t.np → byB (t.pf k) 32) :
    Pure Tryz.prog gl0 38 [b.av, rcl n R, .agg (s.cells ++ (t.cells ++ [.int .i64 leaf]))] (.tup [.int .i64 (xvK b R n s t leaf), .bool (xvB b R n s t leaf)]) := by
  have c1 := rvrec_c R n s hn
  have c2 := rvrec_c R n t hn
  have c3 := rvfy_c b (rcX R n s) s hw bs.root bs.payee fs ps hs
  have c4 := rvfy_c b (rcX R n t) t hw bt.root bt.payee ft pt ht
  have c5 := rsecret_c b s t leaf h0 hw hs ht bs bt
  have c6 := fun h hu => rmessage_c b (secR b s t leaf).1 h hu
  refine pure_sk (own := ow0) Tryz.func38 (by kernel_rfl) mixed (by kernel_rfl)
    (let y0 : AV := (AV.tup [Zi (xvK b R n s t leaf), AV.bool (xvB b R n s t leaf)]); (.sc (true) 101 ([AV.isl 11 n fun (i j : Nat) => Zi (R i j), AV.agg (Spend.cells s)]) (AV.tup [Rcd.av (rcX R n s), AV.bool (decide (fnS R n s ≥ 0))]) (.sc (true) 101 ([AV.isl 11 n fun (i j : Nat) => Zi (R i j), AV.agg (Spend.cells t)]) (AV.tup [Rcd.av (rcX R n t), AV.bool (decide (fnS R n t ≥ 0))]) (.sc ((!decide (fnS R n s ≥ 0) || !decide (fnS R n t ≥ 0)) == false) 18 ([AV.agg (Bas.cells b), AV.agg (Rcd.cells (rcX R n s)), AV.agg (Spend.cells s)]) (AV.bool (vfy b (rcX R n s) s)) (.sc ((!decide (fnS R n s ≥ 0) || !decide (fnS R n t ≥ 0) || !vfy b (rcX R n s) s) == false) 18 ([AV.agg (Bas.cells b), AV.agg (Rcd.cells (rcX R n t)), AV.agg (Spend.cells t)]) (AV.bool (vfy b (rcX R n t) t)) (.br (!decide (fnS R n s ≥ 0) || !decide (fnS R n t ≥ 0) || !vfy b (rcX R n s) s || !vfy b (rcX R n t) t) (.out (AV.tup [Zi 0, AV.bool false]) [] y0 []) (.sc (true) 102 ([AV.agg (Bas.cells b), AV.agg (Spend.cells s), AV.agg (Spend.cells t), Zi leaf]) (AV.tup [Zi (Prod.fst (secR b s t leaf)), Zi (Prod.snd (secR b s t leaf))]) (.sc (((secR b s t leaf).2 != 0 || (secR b s t leaf).1 == 0) == false) 103 ([AV.agg (Bas.cells b), Zi (secR b s t leaf).1]) (Zi (msgI b (Prod.fst (secR b s t leaf)))) (.br ((secR b s t leaf).2 != 0 || (secR b s t leaf).1 == 0 || msgI b (secR b s t leaf).1 == 1) (.out (AV.tup [Zi 0, AV.bool false]) [] y0 []) (.sc (true) 104 ([Zi b.2, Zi (secR b s t leaf).1, Zi (Bas.gr b).1]) (Zi (b.2 ^ Int.toNat (secR b s t leaf).1 % (Bas.gr b).1)) (.out (AV.tup [Zi (b.2 ^ Int.toNat (secR b s t leaf).1 % (Bas.gr b).1), AV.bool true]) [] y0 [])))))))))))
    (by kernel_rfl) ?_
  refine k_sc (c1) ?_
  refine k_sc (c2) ?_
  refine k_scg (fun h2 => c3) ?_
  refine k_scg (fun h3 => c4) ?_
  refine k_br (fun h4 => ?_) (fun h4 => ?_)
  · have g4 := (cnd_or_t (cnd_or_t (cnd_or_t (cnd_not_t cnd_dec_f) (cnd_not_t cnd_dec_f)) (cnd_not_t cnd_id_f)) (cnd_not_t cnd_id_f)) h4
    exact k_out (Ent.of_eq (xv_noR g4))
  · have g4 := (cnd_or_f (cnd_or_f (cnd_or_f (cnd_not_f cnd_dec_t) (cnd_not_f cnd_dec_t)) (cnd_not_f cnd_id_t)) (cnd_not_f cnd_id_t)) h4
    refine k_sc (c5) ?_
    refine k_scg (fun h7 => c6 ((by simp at h7; exact (secR_ok h7.1).1)) ((by simp at h7; exact (secR_ok h7.1).2))) ?_
    refine k_br (fun h8 => ?_) (fun h8 => ?_)
    · have g8 := (cnd_or_t (cnd_or_t cnd_bne_t cnd_beq_t) cnd_beq_t) h8
      exact k_out (Ent.of_eq (xv_f (vd_t g4) g8))
    · have g8 := (cnd_or_f (cnd_or_f cnd_bne_f cnd_beq_f) cnd_beq_f) h8
      refine k_sc (rpow_c (b.2) ((secR b s t leaf).1) ((Bas.gr b).1) (by have K := sec_pow g8.1.1; omega) (by have K := sec_pow g8.1.1; omega) (by have K := sec_pow g8.1.1; omega) (by have K := sec_pow g8.1.1; omega) (by have K := sec_pow g8.1.1; omega)) ?_
      exact k_out (Ent.of_eq (xv_t (vd_t g4) g8))

end Go.Proofs.YtdaaddkipdmajaaGreatDoor

namespace Go.Proofs.YtdaaddkipdmajaaGreatDoor
open Go Go.Am Go.Sp
set_option maxRecDepth 100000

end Go.Proofs.YtdaaddkipdmajaaGreatDoor

namespace Go.Sp
open Go Go.Am
def oddB (b : Bas) (s : Spend) (i : Nat) : Bool := !(scB b (s.lf i 1) && scB b (s.lf i 2))
def gul (s t : Spend) (leaf : Int) : AV := .agg (s.cells ++ (t.cells ++ [.int .i64 leaf]))
theorem entL_app {os : List (Option Ob)} : ∀ {a a' b b' : List AV}, EntL os a a' → EntL os b b' → EntL os (a ++ b) (a' ++ b')
  | [], [], _, _, _, h => h
  | _ :: _, _ :: _, _, _, h, h' => ⟨h.1, entL_app h.2 h'⟩
end Go.Sp

namespace Go.Sp
open Go Go.Am
noncomputable def okI (b : Bas) (s t : Spend) (i : Nat) : Bool := (glK b s t ((sharedL s t).getD i 0)).2 == 0
noncomputable def prvI (b : Bas) (s t : Spend) : Int := firstI (okI b s t) (sharedL s t).length 0
noncomputable def prvE (b : Bas) (R : Nat → Nat → Int) (n : Nat) (s t : Spend) : Int :=
  if validB b = false ∨ (okS s = false ∨ okS t = false) then 1 else if ¬ fnS R n s ≥ 0 ∨ ¬ fnS R n t ≥ 0 then 18 else if verd b R n s = false ∨ verd b R n t = false then 11
  else if prvI b s t ≥ 0 then 0 else if (sharedL s t).length = 0 then 7 else if chS b s = chS b t then 20 else 10
noncomputable def prS (b : Bas) (R : Nat → Nat → Int) (n : Nat) (s t : Spend) : Spend := if prvE b R n s t = 0 then s else .zero
noncomputable def prT (b : Bas) (R : Nat → Nat → Int) (n : Nat) (s t : Spend) : Spend := if prvE b R n s t = 0 then t else .zero
noncomputable def prL (b : Bas) (R : Nat → Nat → Int) (n : Nat) (s t : Spend) : Int := if prvE b R n s t = 0 then (sharedL s t).getD (prvI b s t).toNat 0 else 0
noncomputable abbrev prvG (b : Bas) (R : Nat → Nat → Int) (n : Nat) (s t : Spend) : AV := gul (prS b R n s t) (prT b R n s t) (prL b R n s t)
noncomputable abbrev prvV (b : Bas) (R : Nat → Nat → Int) (n : Nat) (s t : Spend) : AV := .tup [prvG b R n s t, .int .i64 (prvE b R n s t)]
theorem prv_e {os : List (Option Ob)} {b : Bas} {R : Nat → Nat → Int} {n : Nat} {s t : Spend} {e : Int} (h : prvE b R n s t = e) (h0 : e ≠ 0) :
    Ent os (.tup [.agg (Spend.zero.cw .nsl .nsl ++ (Spend.zero.cw .nsl .nsl ++ [.int .i64 0])), .int .i64 e]) (prvV b R n s t) := by
  have e2 : prvG b R n s t = gul .zero .zero 0 := by unfold prvG prS prT prL; rw [if_neg (by rw [h]; exact h0), if_neg (by rw [h]; exact h0), if_neg (by rw [h]; exact h0)]
  unfold prvV
  rw [e2, h]
  exact Ent.tup ⟨Ent.agg (entL_app zero_ent (entL_app zero_ent (EntL.refl _))), Ent.refl _, trivial⟩
theorem prv_1 {b : Bas} {R : Nat → Nat → Int} {n : Nat} {s t : Spend} (h : validB b = false ∨ (okS s = false ∨ okS t = false)) : prvE b R n s t = 1 := if_pos h
theorem prv_2 {b : Bas} {R : Nat → Nat → Int} {n : Nat} {s t : Spend} (h : validB b = true ∧ (okS s = true ∧ okS t = true)) (h2 : ¬ fnS R n s ≥ 0 ∨ ¬ fnS R n t ≥ 0) : prvE b R n s t = 18 := by
  unfold prvE; rw [if_neg (by simp [h]), if_pos h2]
theorem prv_3 {b : Bas} {R : Nat → Nat → Int} {n : Nat} {s t : Spend} (h : validB b = true ∧ (okS s = true ∧ okS t = true)) (h2 : fnS R n s ≥ 0 ∧ fnS R n t ≥ 0) (h3 : verd b R n s = false ∨ verd b R n t = false) : prvE b R n s t = 11 := by
  unfold prvE; rw [if_neg (by simp [h]), if_neg (by omega), if_pos h3]
theorem prv_4 {b : Bas} {R : Nat → Nat → Int} {n : Nat} {s t : Spend} (h : validB b = true ∧ (okS s = true ∧ okS t = true)) (h2 : fnS R n s ≥ 0 ∧ fnS R n t ≥ 0) (h3 : verd b R n s = true ∧ verd b R n t = true) :
    prvE b R n s t = if prvI b s t ≥ 0 then 0 else if (sharedL s t).length = 0 then 7 else if chS b s = chS b t then 20 else 10 := by
  unfold prvE; rw [if_neg (by simp [h]), if_neg (by omega), if_neg (by simp [h3])]
theorem prv_ok {b : Bas} {R : Nat → Nat → Int} {n : Nat} {s t : Spend} {i : Nat} (h : validB b = true ∧ (okS s = true ∧ okS t = true)) (h2 : fnS R n s ≥ 0 ∧ fnS R n t ≥ 0) (h3 : verd b R n s = true ∧ verd b R n t = true)
    (hi : i < (sharedL s t).length) (hx : firstI (okI b s t) (sharedL s t).length 0 = firstI (okI b s t) ((sharedL s t).length - i) i) (hk : okI b s t i = true) : AV.tup [gul s t ((sharedL s t).getD i 0), .int .i64 0] = prvV b R n s t := by
  have e : prvI b s t = i := (first_hit hx hi hk).symm
  have e2 : prvE b R n s t = 0 := by rw [prv_4 h h2 h3, if_pos (by omega)]
  unfold prvV prvG prS prT prL
  rw [if_pos e2, if_pos e2, if_pos e2, e2, e, Int.toNat_natCast]
theorem prv_none {b : Bas} {R : Nat → Nat → Int} {n : Nat} {s t : Spend} {i : Nat} (h : validB b = true ∧ (okS s = true ∧ okS t = true)) (h2 : fnS R n s ≥ 0 ∧ fnS R n t ≥ 0) (h3 : verd b R n s = true ∧ verd b R n t = true)
    (hi : (sharedL s t).length ≤ i) (hx : firstI (okI b s t) (sharedL s t).length 0 = firstI (okI b s t) ((sharedL s t).length - i) i) : prvE b R n s t = if (sharedL s t).length = 0 then 7 else if chS b s = chS b t then 20 else 10 := by
  have e : prvI b s t = -1 := (first_miss hx hi).symm
  rw [prv_4 h h2 h3, if_neg (by omega)]
theorem okL_sc {b : Bas} {s : Spend} {i : Nat} (h : okL b s i = true) : scB b (s.lf i 1) = true ∧ scB b (s.lf i 2) = true := by
  unfold okL leafB chk2 at h
  simp only [Bool.and_eq_true] at h
  exact ⟨h.1.2.1.1, h.1.2.1.2⟩
theorem verd_l {b : Bas} {R : Nat → Nat → Int} {n : Nat} {s : Spend} (h : verd b R n s = true) : ∀ i, i < s.nl → okL b s i = true := by
  unfold verd vfy at h
  simp only [Bool.and_eq_true] at h
  have := List.all_eq_true.1 h.2.1.2
  exact fun i hi => this i (List.mem_range.2 hi)
theorem sh_mem {s t : Spend} {leaf : Int} (h : okS s = true) (hm : leaf ∈ sharedL s t) : ¬ (leaf < fromS s ∨ toS s ≤ leaf) := by
  obtain ⟨_, _, _, _, hn⟩ := okS_all h
  unfold sharedL at hm
  split at hm
  · cases hm
  · unfold sharedN at hm
    simp only [List.mem_map, List.mem_filter, List.mem_range] at hm
    obtain ⟨i, ⟨hi, _⟩, rfl⟩ := hm
    omega
theorem sec_sh {b : Bas} {R : Nat → Nat → Int} {n : Nat} {s t : Spend} {leaf : Int} (h3 : verd b R n s = true ∧ verd b R n t = true) (hm : leaf ∈ sharedL s t) (hg : ¬ (glK b s t leaf).2 = 0) : (glK b s t leaf).2 = if chS b s = chS b t then 20 else 10 := by
  have a := vd_ok h3.1
  have c := vd_ok h3.2
  have hr := sh_mem a.2 hm
  have hf := (shared_has a.2 hr).1 hm
  obtain ⟨_, _, _, _, hn⟩ := okS_all a.2
  have hi : leafN s leaf < s.nl := by unfold leafN; omega
  have s1 := okL_sc (verd_l h3.1 _ hi)
  have s2 := okL_sc (verd_l h3.2 _ (mate_lt hf.2).1)
  have e : secR b s t leaf = if chS b s = chS b t then (0, 20)
      else if s.lf (leafN s leaf) 2 = t.lf (mateS s t (leafN s leaf)) 2 then (0, 10)
      else ((s.lf (leafN s leaf) 1 - t.lf (mateS s t (leafN s leaf)) 1) % b.gr.q * invF ((s.lf (leafN s leaf) 2 - t.lf (mateS s t (leafN s leaf)) 2) % b.gr.q) b.gr.q % b.gr.q, 0) := by
    unfold secR
    rw [if_neg (by simp [a, c]), if_neg hr, if_neg (by simp [hf]), if_neg (by simp [s1, s2])]
  by_cases h1 : chS b s = chS b t
  · rw [if_pos h1] at e
    rw [if_pos h1, glK_1 (by rw [e]; decide), e]
  · rw [if_neg h1] at e
    rw [if_neg h1]
    by_cases h2 : s.lf (leafN s leaf) 2 = t.lf (mateS s t (leafN s leaf)) 2
    · rw [if_pos h2] at e
      rw [glK_1 (by rw [e]; decide), e]
    · rw [if_neg h2] at e
      have e0 : (secR b s t leaf).2 = 0 := by rw [e]
      by_cases h4 : (secR b s t leaf).1 = 0 ∨ msgI b (secR b s t leaf).1 = 1
      · rw [glK_2 e0 h4]
      · exact absurd (by rw [glK_3 e0 (by simpa using h4)]) hg
noncomputable def erA (b : Bas) (s t : Spend) : Nat → Int
  | 0 => 7
  | x + 1 => (glK b s t ((sharedL s t).getD x 0)).2
theorem er_end {b : Bas} {R : Nat → Nat → Int} {n : Nat} {s t : Spend} (h3 : verd b R n s = true ∧ verd b R n t = true) (hx : ∀ i, i < (sharedL s t).length → okI b s t i = false) :
    erA b s t (sharedL s t).length = if (sharedL s t).length = 0 then 7 else if chS b s = chS b t then 20 else 10 := by
  generalize hl : (sharedL s t).length = k
  cases k with
  | zero => rfl
  | succ x =>
    rw [if_neg (by omega)]
    have hm : (sharedL s t).getD x 0 ∈ sharedL s t := by
      have hx : x < (sharedL s t).length := by omega
      rw [List.getD_eq_getElem?_getD, List.getElem?_eq_getElem hx]
      exact List.getElem_mem hx
    have hk := hx x (by omega)
    unfold okI at hk
    exact sec_sh h3 hm (by simpa using hk)
end Go.Sp

namespace Go.Proofs.YtdaaddkipdmajaaGreatDoor
open Go Go.Am Go.Sp
set_option maxRecDepth 100000

theorem rshared_c (s t : Spend) (hs : s.nl ≤ 1000) (ht : t.nl ≤ 1000) : Pure Tryz.prog gl0 107 [s.av, t.av] (.tup [il .i64 (bif okS s && okS t then sharedL s t else []), .int .i64 (bif okS s && okS t then 0 else 1)]) := by
  have c2 := rformed_c s
  have c3 := rformed_c t
  have c4 := fun h => r33first_c s h
  have c5 := fun j h h' => r33partner_c s t j h h' (by omega)
  refine pure_sk (own := ow0) Tryz.func107 (by kernel_rfl) mixed (by kernel_rfl)
    (let y0 : AV := (AV.tup [il IntKind.i64 (bif okS s && okS t then sharedL s t else []), Zi (bif okS s && okS t then (0 : Int) else (1 : Int))]); (.sc (true) 42 ([AV.agg (Spend.cells s)]) (AV.bool (okS s)) (.sc ((!okS s) == false) 42 ([AV.agg (Spend.cells t)]) (AV.bool (okS t)) (.br (!okS s || !okS t) (.out (AV.tup [AV.nsl, Zi 1]) [] y0 []) (.loop ({ x : Nat // x ≤ Spend.nl s }) (fun (x : { x : Nat // x ≤ Spend.nl s }) => mkSt [2, 3, 6, 7] [AV.own 0 80 0 0 80, AV.own 1 80 0 0 80, AV.osl 2 1 0 (List.length (sharedM s t (x.1))), Zi (↑(x.1) : Int)] [some ⟨80, 1, true, Rep.lst [Spend.cells s]⟩, some ⟨80, 1, true, Rep.lst [Spend.cells t]⟩, ilO IntKind.i64 (sharedM s t (x.1))]) (fun (x : { x : Nat // x ≤ Spend.nl s }) => Spend.nl s - x.1) (⟨0, Nat.zero_le (Spend.nl s)⟩) ([2, 3, 6, 7]) ([0, 8, 370]) ([AV.own 0 80 0 0 80, AV.own 1 80 0 0 80, AV.nsl, Zi 0]) ([some ⟨80, 1, true, Rep.lst [Spend.cells s]⟩, some ⟨80, 1, true, Rep.lst [Spend.cells t]⟩, some ⟨1, 0, true, Rep.lst []⟩]) (fun x4 => (.br (decide ((↑x4.1 : Int) < (↑s.16 : Int))) (.sc (true) 179 ([AV.agg (Spend.cells s), AV.agg (Spend.cells t), Zi (↑x4.1 : Int)]) (Zi (partI s t (Int.toNat (↑x4.1 : Int)))) (.br (decide (partI s t (Int.toNat (↑x4.1 : Int)) ≥ 0)) (.sc (true) 178 ([AV.agg (Spend.cells s)]) (Zi (fromS s)) (.req ((List.length (sharedM s t (x4.1)) + 1) * 8 ≤ 140737488355328) (.again (Again 0 (fun (x : { x : Nat // x ≤ Spend.nl s }) => mkSt [2, 3, 6, 7] [AV.own 0 80 0 0 80, AV.own 1 80 0 0 80, AV.osl 2 1 0 (List.length (sharedM s t (x.1))), Zi (↑(x.1) : Int)] [some ⟨80, 1, true, Rep.lst [Spend.cells s]⟩, some ⟨80, 1, true, Rep.lst [Spend.cells t]⟩, ilO IntKind.i64 (sharedM s t (x.1))]) (fun (x : { x : Nat // x ≤ Spend.nl s }) => Spend.nl s - x.1) x4) ([2, 3, 6, 7]) ([0, 1, 131]) ([AV.own 0 80 0 0 80, AV.own 1 80 0 0 80, AV.osl 2 1 0 (List.length (sharedM s t (x4.1)) + 1), Zi (IntKind.wrap IntKind.i64 ((↑x4.1 : Int) + 1))]) ([some ⟨80, 1, true, Rep.lst [Spend.cells s]⟩, some ⟨80, 1, true, Rep.lst [Spend.cells t]⟩, some ⟨1, List.length (sharedM s t (x4.1)) + 1, true, Rep.fn fun (i j : Nat) => Zi (bif Nat.blt i (List.length (sharedM s t (x4.1))) then List.getD (sharedM s t (x4.1)) i (0 : Int) else intOfAV (atL [Zi (IntKind.wrap IntKind.i64 (fromS s + (↑(x4.1) : Int)))] j))⟩])))) (.again (Again 0 (fun (x : { x : Nat // x ≤ Spend.nl s }) => mkSt [2, 3, 6, 7] [AV.own 0 80 0 0 80, AV.own 1 80 0 0 80, AV.osl 2 1 0 (List.length (sharedM s t (x.1))), Zi (↑(x.1) : Int)] [some ⟨80, 1, true, Rep.lst [Spend.cells s]⟩, some ⟨80, 1, true, Rep.lst [Spend.cells t]⟩, ilO IntKind.i64 (sharedM s t (x.1))]) (fun (x : { x : Nat // x ≤ Spend.nl s }) => Spend.nl s - x.1) x4) ([2, 3, 6, 7]) ([0, 1, 2]) ([AV.own 0 80 0 0 80, AV.own 1 80 0 0 80, AV.osl 2 1 0 (List.length (sharedM s t (x4.1))), Zi (IntKind.wrap IntKind.i64 ((↑x4.1 : Int) + 1))]) ([some ⟨80, 1, true, Rep.lst [Spend.cells s]⟩, some ⟨80, 1, true, Rep.lst [Spend.cells t]⟩, some ⟨1, List.length (sharedM s t (x4.1)), true, Rep.fn fun (i j : Nat) => Zi (List.getD (sharedM s t (x4.1)) i (0 : Int))⟩])))) (.out (AV.tup [AV.isl 1 (List.length (sharedM s t (x4.1))) fun (r k : Nat) => Zi (List.getD (sharedM s t (x4.1)) (r + 0) (0 : Int)), Zi 0]) [] y0 []))))))))
    (by kernel_rfl) ?_
  refine k_sc (c2) ?_
  refine k_scg (fun h1 => c3) ?_
  refine k_br (fun h2 => ?_) (fun h2 => ?_)
  · have g2 := (cnd_or_t (cnd_not_t cnd_id_f) (cnd_not_t cnd_id_f)) h2
    exact k_out (Ent.tup ⟨Ent.nilL (bif_f (not_ok2 g2)), Ent.of_eq (congrArg _ (bif_f (not_ok2 g2)).symm), trivial⟩)
  · have g2 := (cnd_or_f (cnd_not_f cnd_id_t) (cnd_not_f cnd_id_t)) h2
    refine k_loop (fun _ hs => hs.le (by repeat' (first | exact trivial | (first | exact Ent.refl _ | exact inc_ent (by omega) | exact Ent.nil rfl | exact Ent.of_eq (congrArg (AV.osl _ _ _) (by first | omega | (dsimp only; omega))) | exact Ent.of_eq (congrArg (AV.int _) (by first | omega | (dsimp only; omega)))) | refine And.intro ?_ ?_)) (by repeat' (first | exact trivial | (first | exact ObEnt.refl _ | exact ObEnt.junk | exact ObEnt.zero | exact ObEnt.push rfl rfl | exact ObEnt.pushRow rfl | exact ObEnt.len (by omega) | exact ObEnt.row (by repeat' (first | exact trivial | (first | exact Ent.refl _ | exact inc_ent (by omega) | exact Ent.nil rfl | exact Ent.of_eq (congrArg (AV.osl _ _ _) (by first | omega | (dsimp only; omega))) | exact Ent.of_eq (congrArg (AV.int _) (by first | omega | (dsimp only; omega)))) | refine And.intro ?_ ?_))) | refine And.intro ?_ ?_))) (fun x4 => ?_)
    try (have q4 := x4.2; dsimp only at q4)
    refine k_br (fun h5 => ?_) (fun h5 => ?_)
    · have g5 := cnd_dec_t h5
      refine k_sc (c5 ((↑x4.1 : Int)) (by omega) (by assumption)) ?_
      refine k_br (fun h7 => ?_) (fun h7 => ?_)
      · have g7 := cnd_dec_t h7
        try simp only [Int.toNat_natCast] at g7
        refine k_sc (c4 (g2.1)) ?_
        refine k_req (by have := sharedM_len s t x4.1; omega) ?_
        exact k_again (⟨x4.1 + 1, by omega⟩) (fun _ hs => hs.le (⟨by exact Ent.refl _, by exact Ent.refl _, Ent.of_eq (congrArg (AV.osl 2 1 0) (sharedM_lt (x := x4.1) (by omega) g7)), by exact inc_ent (by omega), trivial⟩) (⟨by exact ObEnt.refl _, by exact ObEnt.refl _, .pushL (sharedM_t (x := x4.1) (by omega) g7), trivial⟩)) (by (dsimp only; omega))
      · have g7 := cnd_dec_f h7
        try simp only [Int.toNat_natCast] at g7
        exact k_again (⟨x4.1 + 1, by omega⟩) (fun _ hs => hs.le (⟨by exact Ent.refl _, by exact Ent.refl _, Ent.of_eq (congrArg (AV.osl 2 1 0) (sharedM_lf (x := x4.1) g7)), by exact inc_ent (by omega), trivial⟩) (⟨by exact ObEnt.refl _, by exact ObEnt.refl _, sharedM_same (x := x4.1) g7, trivial⟩)) (by (dsimp only; omega))
    · have g5 := cnd_dec_f h5
      exact k_out (Ent.tup ⟨Ent.ilL (sharedM_end g2 (by omega)), Ent.of_eq (congrArg _ (bif_t (yes_ok2 g2)).symm), trivial⟩)

theorem same27_c (i : Int) (n : Nat) (f : Nat → Nat → Int) (hn : n ≤ 100000) : Pure Tryz.prog gl0 66 [.agg [.int .i64 i, hss n f], .agg [.int .i64 i, hss n f]] (.bool true) := by
  refine pure_sk (own := ow0) Tryz.func66 (by kernel_rfl) mixed (by kernel_rfl)
    (.br (i != i || (↑n : Int) != (↑n : Int)) (.out (AV.bool false) [] (AV.bool true) []) (.loop (Sp.Sub fun (x : Nat) => x ≤ n) (fun (x : Sp.Sub fun (x : Nat) => x ≤ n) => mkSt [2, 3, 5] [AV.own 0 2 0 0 2, AV.own 1 2 0 0 2, Zi (↑(x.1) : Int)] [some ⟨2, 1, true, Rep.lst [[Zi i, hss n f]]⟩, some ⟨2, 1, true, Rep.lst [[Zi i, hss n f]]⟩]) (fun (x : Sp.Sub fun (x : Nat) => x ≤ n) => n - x.1) (⟨0, Nat.zero_le n⟩) ([2, 3, 5]) ([0, 8]) ([AV.own 0 2 0 0 2, AV.own 1 2 0 0 2, Zi 0]) ([some ⟨2, 1, true, Rep.lst [[Zi i, AV.isl 32 n fun (i j : Nat) => Zb (f i j)]]⟩, some ⟨2, 1, true, Rep.lst [[Zi i, AV.isl 32 n fun (i j : Nat) => Zb (f i j)]]⟩]) (fun x2 => (.br (decide ((↑x2.1 : Int) < (↑n : Int))) (.req ((0 : Int) ≤ (↑x2.1 : Int) ∧ (↑x2.1 : Int) < (↑n : Int)) (.req ((0 : Int) ≤ (↑x2.1 : Int) ∧ (↑x2.1 : Int) < (↑n : Int)) (.br (!(f (Int.toNat (↑x2.1 : Int)) 0 == f (Int.toNat (↑x2.1 : Int)) 0 && (f (Int.toNat (↑x2.1 : Int)) 1 == f (Int.toNat (↑x2.1 : Int)) 1 && (f (Int.toNat (↑x2.1 : Int)) 2 == f (Int.toNat (↑x2.1 : Int)) 2 && (f (Int.toNat (↑x2.1 : Int)) 3 == f (Int.toNat (↑x2.1 : Int)) 3 && (f (Int.toNat (↑x2.1 : Int)) 4 == f (Int.toNat (↑x2.1 : Int)) 4 && (f (Int.toNat (↑x2.1 : Int)) 5 == f (Int.toNat (↑x2.1 : Int)) 5 && (f (Int.toNat (↑x2.1 : Int)) 6 == f (Int.toNat (↑x2.1 : Int)) 6 && (f (Int.toNat (↑x2.1 : Int)) 7 == f (Int.toNat (↑x2.1 : Int)) 7 && (f (Int.toNat (↑x2.1 : Int)) 8 == f (Int.toNat (↑x2.1 : Int)) 8 && (f (Int.toNat (↑x2.1 : Int)) 9 == f (Int.toNat (↑x2.1 : Int)) 9 && (f (Int.toNat (↑x2.1 : Int)) 10 == f (Int.toNat (↑x2.1 : Int)) 10 && (f (Int.toNat (↑x2.1 : Int)) 11 == f (Int.toNat (↑x2.1 : Int)) 11 && (f (Int.toNat (↑x2.1 : Int)) 12 == f (Int.toNat (↑x2.1 : Int)) 12 && (f (Int.toNat (↑x2.1 : Int)) 13 == f (Int.toNat (↑x2.1 : Int)) 13 && (f (Int.toNat (↑x2.1 : Int)) 14 == f (Int.toNat (↑x2.1 : Int)) 14 && (f (Int.toNat (↑x2.1 : Int)) 15 == f (Int.toNat (↑x2.1 : Int)) 15 && (f (Int.toNat (↑x2.1 : Int)) 16 == f (Int.toNat (↑x2.1 : Int)) 16 && (f (Int.toNat (↑x2.1 : Int)) 17 == f (Int.toNat (↑x2.1 : Int)) 17 && (f (Int.toNat (↑x2.1 : Int)) 18 == f (Int.toNat (↑x2.1 : Int)) 18 && (f (Int.toNat (↑x2.1 : Int)) 19 == f (Int.toNat (↑x2.1 : Int)) 19 && (f (Int.toNat (↑x2.1 : Int)) 20 == f (Int.toNat (↑x2.1 : Int)) 20 && (f (Int.toNat (↑x2.1 : Int)) 21 == f (Int.toNat (↑x2.1 : Int)) 21 && (f (Int.toNat (↑x2.1 : Int)) 22 == f (Int.toNat (↑x2.1 : Int)) 22 && (f (Int.toNat (↑x2.1 : Int)) 23 == f (Int.toNat (↑x2.1 : Int)) 23 && (f (Int.toNat (↑x2.1 : Int)) 24 == f (Int.toNat (↑x2.1 : Int)) 24 && (f (Int.toNat (↑x2.1 : Int)) 25 == f (Int.toNat (↑x2.1 : Int)) 25 && (f (Int.toNat (↑x2.1 : Int)) 26 == f (Int.toNat (↑x2.1 : Int)) 26 && (f (Int.toNat (↑x2.1 : Int)) 27 == f (Int.toNat (↑x2.1 : Int)) 27 && (f (Int.toNat (↑x2.1 : Int)) 28 == f (Int.toNat (↑x2.1 : Int)) 28 && (f (Int.toNat (↑x2.1 : Int)) 29 == f (Int.toNat (↑x2.1 : Int)) 29 && (f (Int.toNat (↑x2.1 : Int)) 30 == f (Int.toNat (↑x2.1 : Int)) 30 && (f (Int.toNat (↑x2.1 : Int)) 31 == f (Int.toNat (↑x2.1 : Int)) 31 && true))))))))))))))))))))))))))))))))) (.out (AV.bool false) [] (AV.bool true) []) (.again (Again 0 (fun (x : Sp.Sub fun (x : Nat) => x ≤ n) => mkSt [2, 3, 5] [AV.own 0 2 0 0 2, AV.own 1 2 0 0 2, Zi (↑(x.1) : Int)] [some ⟨2, 1, true, Rep.lst [[Zi i, hss n f]]⟩, some ⟨2, 1, true, Rep.lst [[Zi i, hss n f]]⟩]) (fun (x : Sp.Sub fun (x : Nat) => x ≤ n) => n - x.1) x2) ([2, 3, 5]) ([0, 1]) ([AV.own 0 2 0 0 2, AV.own 1 2 0 0 2, Zi (IntKind.wrap IntKind.i64 ((↑x2.1 : Int) + 1))]) ([some ⟨2, 1, true, Rep.lst [[Zi i, AV.isl 32 n fun (i j : Nat) => Zb (f i j)]]⟩, some ⟨2, 1, true, Rep.lst [[Zi i, AV.isl 32 n fun (i j : Nat) => Zb (f i j)]]⟩]))))) (.out (AV.bool true) [] (AV.bool true) [])))))
    (by kernel_rfl) ?_
  refine k_br (fun h0 => ?_) (fun h0 => ?_)
  · have g0 := (cnd_or_t cnd_bne_t cnd_bne_t) h0
    exact k_out (Ent.of_eq (by simp_all))
  · have g0 := (cnd_or_f cnd_bne_f cnd_bne_f) h0
    refine k_loop (fun _ hs => hs.le (by repeat' (first | exact trivial | (first | exact Ent.refl _ | exact inc_ent (by omega) | exact Ent.nil rfl | exact Ent.of_eq (congrArg (AV.osl _ _ _) (by first | omega | (dsimp only; omega))) | exact Ent.of_eq (congrArg (AV.int _) (by first | omega | (dsimp only; omega)))) | refine And.intro ?_ ?_)) (by repeat' (first | exact trivial | (first | exact ObEnt.refl _ | exact ObEnt.junk | exact ObEnt.zero | exact ObEnt.push rfl rfl | exact ObEnt.pushRow rfl | exact ObEnt.len (by omega) | exact ObEnt.row (by repeat' (first | exact trivial | (first | exact Ent.refl _ | exact inc_ent (by omega) | exact Ent.nil rfl | exact Ent.of_eq (congrArg (AV.osl _ _ _) (by first | omega | (dsimp only; omega))) | exact Ent.of_eq (congrArg (AV.int _) (by first | omega | (dsimp only; omega)))) | refine And.intro ?_ ?_))) | refine And.intro ?_ ?_))) (fun x2 => ?_)
    try (have q2 := x2.2; dsimp only at q2)
    refine k_br (fun h3 => ?_) (fun h3 => ?_)
    · have g3 := cnd_dec_t h3
      refine k_req (by omega) ?_
      refine k_req (by omega) ?_
      refine k_br (fun h6 => ?_) (fun h6 => ?_)
      · have g6 := (cnd_not_t (cnd_and_f cnd_beq_f (cnd_and_f cnd_beq_f (cnd_and_f cnd_beq_f (cnd_and_f cnd_beq_f (cnd_and_f cnd_beq_f (cnd_and_f cnd_beq_f (cnd_and_f cnd_beq_f (cnd_and_f cnd_beq_f (cnd_and_f cnd_beq_f (cnd_and_f cnd_beq_f (cnd_and_f cnd_beq_f (cnd_and_f cnd_beq_f (cnd_and_f cnd_beq_f (cnd_and_f cnd_beq_f (cnd_and_f cnd_beq_f (cnd_and_f cnd_beq_f (cnd_and_f cnd_beq_f (cnd_and_f cnd_beq_f (cnd_and_f cnd_beq_f (cnd_and_f cnd_beq_f (cnd_and_f cnd_beq_f (cnd_and_f cnd_beq_f (cnd_and_f cnd_beq_f (cnd_and_f cnd_beq_f (cnd_and_f cnd_beq_f (cnd_and_f cnd_beq_f (cnd_and_f cnd_beq_f (cnd_and_f cnd_beq_f (cnd_and_f cnd_beq_f (cnd_and_f cnd_beq_f (cnd_and_f cnd_beq_f (cnd_and_f cnd_beq_f cnd_id_f))))))))))))))))))))))))))))))))) h6
        try simp only [Int.toNat_natCast] at g6
        exact k_out (Ent.of_eq (by simp_all))
      · have g6 := (cnd_not_f (cnd_and_t cnd_beq_t (cnd_and_t cnd_beq_t (cnd_and_t cnd_beq_t (cnd_and_t cnd_beq_t (cnd_and_t cnd_beq_t (cnd_and_t cnd_beq_t (cnd_and_t cnd_beq_t (cnd_and_t cnd_beq_t (cnd_and_t cnd_beq_t (cnd_and_t cnd_beq_t (cnd_and_t cnd_beq_t (cnd_and_t cnd_beq_t (cnd_and_t cnd_beq_t (cnd_and_t cnd_beq_t (cnd_and_t cnd_beq_t (cnd_and_t cnd_beq_t (cnd_and_t cnd_beq_t (cnd_and_t cnd_beq_t (cnd_and_t cnd_beq_t (cnd_and_t cnd_beq_t (cnd_and_t cnd_beq_t (cnd_and_t cnd_beq_t (cnd_and_t cnd_beq_t (cnd_and_t cnd_beq_t (cnd_and_t cnd_beq_t (cnd_and_t cnd_beq_t (cnd_and_t cnd_beq_t (cnd_and_t cnd_beq_t (cnd_and_t cnd_beq_t (cnd_and_t cnd_beq_t (cnd_and_t cnd_beq_t (cnd_and_t cnd_beq_t cnd_id_t))))))))))))))))))))))))))))))))) h6
        try simp only [Int.toNat_natCast] at g6
        exact k_again (⟨x2.1 + 1, by omega⟩) (fun _ hs => hs.le (by repeat' (first | exact trivial | (first | exact Ent.refl _ | exact inc_ent (by omega) | exact Ent.nil rfl | exact Ent.of_eq (congrArg (AV.osl _ _ _) (by first | omega | (dsimp only; omega))) | exact Ent.of_eq (congrArg (AV.int _) (by first | omega | (dsimp only; omega)))) | refine And.intro ?_ ?_)) (by repeat' (first | exact trivial | (first | exact ObEnt.refl _ | exact ObEnt.junk | exact ObEnt.zero | exact ObEnt.push rfl rfl | exact ObEnt.pushRow rfl | exact ObEnt.len (by omega) | exact ObEnt.row (by repeat' (first | exact trivial | (first | exact Ent.refl _ | exact inc_ent (by omega) | exact Ent.nil rfl | exact Ent.of_eq (congrArg (AV.osl _ _ _) (by first | omega | (dsimp only; omega))) | exact Ent.of_eq (congrArg (AV.int _) (by first | omega | (dsimp only; omega)))) | refine And.intro ?_ ?_))) | refine And.intro ?_ ?_))) (by (dsimp only; omega))
    · have g3 := cnd_dec_f h3
      exact k_out (Ent.of_eq (by rfl))

theorem same32_c (s : Spend) (hl : s.nl ≤ 1000) (hp : s.np ≤ 1000) : Pure Tryz.prog gl0 16 [s.av, s.av] (.bool true) := by
  refine pure_sk (own := ow0) Tryz.func16 (by kernel_rfl) mixed (by kernel_rfl)
    (let y0 : List (Option Ob) := [some ⟨80, 1, true, Rep.lst [Spend.cells s]⟩, some ⟨80, 1, true, Rep.lst [Spend.cells s]⟩]; let y1 : List AV := [Zi s.18, AV.isl 32 s.19 fun (i j : Nat) => Zb (s.20 i j)]; (.sc ((!(s.1 == s.1 && (s.2 == s.2 && (s.3 == s.3 && (s.4 == s.4 && (s.5 == s.5 && (s.6 0 == s.6 0 && (s.6 1 == s.6 1 && (s.6 2 == s.6 2 && (s.6 3 == s.6 3 && (s.6 4 == s.6 4 && (s.6 5 == s.6 5 && (s.6 6 == s.6 6 && (s.6 7 == s.6 7 && (s.6 8 == s.6 8 && (s.6 9 == s.6 9 && (s.6 10 == s.6 10 && (s.6 11 == s.6 11 && (s.6 12 == s.6 12 && (s.6 13 == s.6 13 && (s.6 14 == s.6 14 && (s.6 15 == s.6 15 && (s.6 16 == s.6 16 && (s.6 17 == s.6 17 && (s.6 18 == s.6 18 && (s.6 19 == s.6 19 && (s.6 20 == s.6 20 && (s.6 21 == s.6 21 && (s.6 22 == s.6 22 && (s.6 23 == s.6 23 && (s.6 24 == s.6 24 && (s.6 25 == s.6 25 && (s.6 26 == s.6 26 && (s.6 27 == s.6 27 && (s.6 28 == s.6 28 && (s.6 29 == s.6 29 && (s.6 30 == s.6 30 && (s.6 31 == s.6 31 && true))))))))))))))))))))))))))))))) && (s.7 == s.7 && (s.8 == s.8 && (s.9 == s.9 && (s.10 == s.10 && true))) && true))))))) || !(s.11 == s.11 && (s.12 == s.12 && true)) || !(s.13 0 == s.13 0 && (s.13 1 == s.13 1 && (s.13 2 == s.13 2 && (s.13 3 == s.13 3 && (s.13 4 == s.13 4 && (s.13 5 == s.13 5 && (s.13 6 == s.13 6 && (s.13 7 == s.13 7 && (s.13 8 == s.13 8 && (s.13 9 == s.13 9 && (s.13 10 == s.13 10 && (s.13 11 == s.13 11 && (s.13 12 == s.13 12 && (s.13 13 == s.13 13 && (s.13 14 == s.13 14 && (s.13 15 == s.13 15 && (s.13 16 == s.13 16 && (s.13 17 == s.13 17 && (s.13 18 == s.13 18 && (s.13 19 == s.13 19 && (s.13 20 == s.13 20 && (s.13 21 == s.13 21 && (s.13 22 == s.13 22 && (s.13 23 == s.13 23 && (s.13 24 == s.13 24 && (s.13 25 == s.13 25 && (s.13 26 == s.13 26 && (s.13 27 == s.13 27 && (s.13 28 == s.13 28 && (s.13 29 == s.13 29 && (s.13 30 == s.13 30 && (s.13 31 == s.13 31 && true))))))))))))))))))))))))))))))) && (s.14 == s.14 && (s.15 == s.15 && true))) || (↑s.16 : Int) != (↑s.16 : Int)) == false) 66 ([AV.agg y1, AV.agg y1]) (AV.bool true) (.br (!(s.1 == s.1 && (s.2 == s.2 && (s.3 == s.3 && (s.4 == s.4 && (s.5 == s.5 && (s.6 0 == s.6 0 && (s.6 1 == s.6 1 && (s.6 2 == s.6 2 && (s.6 3 == s.6 3 && (s.6 4 == s.6 4 && (s.6 5 == s.6 5 && (s.6 6 == s.6 6 && (s.6 7 == s.6 7 && (s.6 8 == s.6 8 && (s.6 9 == s.6 9 && (s.6 10 == s.6 10 && (s.6 11 == s.6 11 && (s.6 12 == s.6 12 && (s.6 13 == s.6 13 && (s.6 14 == s.6 14 && (s.6 15 == s.6 15 && (s.6 16 == s.6 16 && (s.6 17 == s.6 17 && (s.6 18 == s.6 18 && (s.6 19 == s.6 19 && (s.6 20 == s.6 20 && (s.6 21 == s.6 21 && (s.6 22 == s.6 22 && (s.6 23 == s.6 23 && (s.6 24 == s.6 24 && (s.6 25 == s.6 25 && (s.6 26 == s.6 26 && (s.6 27 == s.6 27 && (s.6 28 == s.6 28 && (s.6 29 == s.6 29 && (s.6 30 == s.6 30 && (s.6 31 == s.6 31 && true))))))))))))))))))))))))))))))) && (s.7 == s.7 && (s.8 == s.8 && (s.9 == s.9 && (s.10 == s.10 && true))) && true))))))) || !(s.11 == s.11 && (s.12 == s.12 && true)) || !(s.13 0 == s.13 0 && (s.13 1 == s.13 1 && (s.13 2 == s.13 2 && (s.13 3 == s.13 3 && (s.13 4 == s.13 4 && (s.13 5 == s.13 5 && (s.13 6 == s.13 6 && (s.13 7 == s.13 7 && (s.13 8 == s.13 8 && (s.13 9 == s.13 9 && (s.13 10 == s.13 10 && (s.13 11 == s.13 11 && (s.13 12 == s.13 12 && (s.13 13 == s.13 13 && (s.13 14 == s.13 14 && (s.13 15 == s.13 15 && (s.13 16 == s.13 16 && (s.13 17 == s.13 17 && (s.13 18 == s.13 18 && (s.13 19 == s.13 19 && (s.13 20 == s.13 20 && (s.13 21 == s.13 21 && (s.13 22 == s.13 22 && (s.13 23 == s.13 23 && (s.13 24 == s.13 24 && (s.13 25 == s.13 25 && (s.13 26 == s.13 26 && (s.13 27 == s.13 27 && (s.13 28 == s.13 28 && (s.13 29 == s.13 29 && (s.13 30 == s.13 30 && (s.13 31 == s.13 31 && true))))))))))))))))))))))))))))))) && (s.14 == s.14 && (s.15 == s.15 && true))) || (↑s.16 : Int) != (↑s.16 : Int) || false) (.out (AV.bool false) [] (AV.bool true) []) (.loop (Sp.Sub fun (x : Nat) => x ≤ Spend.nl s) (fun (x : Sp.Sub fun (x : Nat) => x ≤ Spend.nl s) => mkSt [2, 3, 5] [AV.own 0 80 0 0 80, AV.own 1 80 0 0 80, Zi (↑(x.1) : Int)] y0) (fun (x : Sp.Sub fun (x : Nat) => x ≤ Spend.nl s) => Spend.nl s - x.1) (⟨0, Nat.zero_le (Spend.nl s)⟩) ([2, 3, 5]) ([0, 8]) ([AV.own 0 80 0 0 80, AV.own 1 80 0 0 80, Zi 0]) (y0) (fun x3 => (.br (decide ((↑x3.1 : Int) < (↑s.16 : Int))) (.req ((0 : Int) ≤ (↑x3.1 : Int) ∧ (↑x3.1 : Int) < (↑s.16 : Int)) (.req ((0 : Int) ≤ (↑x3.1 : Int) ∧ (↑x3.1 : Int) < (↑s.16 : Int)) (.br (!(s.17 (Int.toNat (↑x3.1 : Int)) 0 == s.17 (Int.toNat (↑x3.1 : Int)) 0 && (s.17 (Int.toNat (↑x3.1 : Int)) 1 == s.17 (Int.toNat (↑x3.1 : Int)) 1 && (s.17 (Int.toNat (↑x3.1 : Int)) 2 == s.17 (Int.toNat (↑x3.1 : Int)) 2 && true)))) (.out (AV.bool false) [] (AV.bool true) []) (.again (Again 0 (fun (x : Sp.Sub fun (x : Nat) => x ≤ Spend.nl s) => mkSt [2, 3, 5] [AV.own 0 80 0 0 80, AV.own 1 80 0 0 80, Zi (↑(x.1) : Int)] y0) (fun (x : Sp.Sub fun (x : Nat) => x ≤ Spend.nl s) => Spend.nl s - x.1) x3) ([2, 3, 5]) ([0, 1]) ([AV.own 0 80 0 0 80, AV.own 1 80 0 0 80, Zi (IntKind.wrap IntKind.i64 ((↑x3.1 : Int) + 1))]) (y0))))) (.out (AV.bool true) [] (AV.bool true) [])))))))
    (by kernel_rfl) ?_
  refine k_scg (fun h0 => same27_c (s.18) (s.19) (s.20) (by omega)) ?_
  refine k_br (fun h1 => ?_) (fun h1 => ?_)
  · have g1 := (cnd_or_t (cnd_or_t (cnd_or_t (cnd_or_t (cnd_not_t (cnd_and_f cnd_beq_f (cnd_and_f cnd_beq_f (cnd_and_f cnd_beq_f (cnd_and_f cnd_beq_f (cnd_and_f cnd_beq_f (cnd_and_f (cnd_and_f cnd_beq_f (cnd_and_f cnd_beq_f (cnd_and_f cnd_beq_f (cnd_and_f cnd_beq_f (cnd_and_f cnd_beq_f (cnd_and_f cnd_beq_f (cnd_and_f cnd_beq_f (cnd_and_f cnd_beq_f (cnd_and_f cnd_beq_f (cnd_and_f cnd_beq_f (cnd_and_f cnd_beq_f (cnd_and_f cnd_beq_f (cnd_and_f cnd_beq_f (cnd_and_f cnd_beq_f (cnd_and_f cnd_beq_f (cnd_and_f cnd_beq_f (cnd_and_f cnd_beq_f (cnd_and_f cnd_beq_f (cnd_and_f cnd_beq_f (cnd_and_f cnd_beq_f (cnd_and_f cnd_beq_f (cnd_and_f cnd_beq_f (cnd_and_f cnd_beq_f (cnd_and_f cnd_beq_f (cnd_and_f cnd_beq_f (cnd_and_f cnd_beq_f (cnd_and_f cnd_beq_f (cnd_and_f cnd_beq_f (cnd_and_f cnd_beq_f (cnd_and_f cnd_beq_f (cnd_and_f cnd_beq_f (cnd_and_f cnd_beq_f cnd_id_f)))))))))))))))))))))))))))))))) (cnd_and_f (cnd_and_f cnd_beq_f (cnd_and_f cnd_beq_f (cnd_and_f cnd_beq_f (cnd_and_f cnd_beq_f cnd_id_f)))) cnd_id_f)))))))) (cnd_not_t (cnd_and_f cnd_beq_f (cnd_and_f cnd_beq_f cnd_id_f)))) (cnd_not_t (cnd_and_f (cnd_and_f cnd_beq_f (cnd_and_f cnd_beq_f (cnd_and_f cnd_beq_f (cnd_and_f cnd_beq_f (cnd_and_f cnd_beq_f (cnd_and_f cnd_beq_f (cnd_and_f cnd_beq_f (cnd_and_f cnd_beq_f (cnd_and_f cnd_beq_f (cnd_and_f cnd_beq_f (cnd_and_f cnd_beq_f (cnd_and_f cnd_beq_f (cnd_and_f cnd_beq_f (cnd_and_f cnd_beq_f (cnd_and_f cnd_beq_f (cnd_and_f cnd_beq_f (cnd_and_f cnd_beq_f (cnd_and_f cnd_beq_f (cnd_and_f cnd_beq_f (cnd_and_f cnd_beq_f (cnd_and_f cnd_beq_f (cnd_and_f cnd_beq_f (cnd_and_f cnd_beq_f (cnd_and_f cnd_beq_f (cnd_and_f cnd_beq_f (cnd_and_f cnd_beq_f (cnd_and_f cnd_beq_f (cnd_and_f cnd_beq_f (cnd_and_f cnd_beq_f (cnd_and_f cnd_beq_f (cnd_and_f cnd_beq_f (cnd_and_f cnd_beq_f cnd_id_f)))))))))))))))))))))))))))))))) (cnd_and_f cnd_beq_f (cnd_and_f cnd_beq_f cnd_id_f))))) cnd_bne_t) cnd_id_t) h1
    exact k_out (Ent.of_eq (by simp_all))
  · have g1 := (cnd_or_f (cnd_or_f (cnd_or_f (cnd_or_f (cnd_not_f (cnd_and_t cnd_beq_t (cnd_and_t cnd_beq_t (cnd_and_t cnd_beq_t (cnd_and_t cnd_beq_t (cnd_and_t cnd_beq_t (cnd_and_t (cnd_and_t cnd_beq_t (cnd_and_t cnd_beq_t (cnd_and_t cnd_beq_t (cnd_and_t cnd_beq_t (cnd_and_t cnd_beq_t (cnd_and_t cnd_beq_t (cnd_and_t cnd_beq_t (cnd_and_t cnd_beq_t (cnd_and_t cnd_beq_t (cnd_and_t cnd_beq_t (cnd_and_t cnd_beq_t (cnd_and_t cnd_beq_t (cnd_and_t cnd_beq_t (cnd_and_t cnd_beq_t (cnd_and_t cnd_beq_t (cnd_and_t cnd_beq_t (cnd_and_t cnd_beq_t (cnd_and_t cnd_beq_t (cnd_and_t cnd_beq_t (cnd_and_t cnd_beq_t (cnd_and_t cnd_beq_t (cnd_and_t cnd_beq_t (cnd_and_t cnd_beq_t (cnd_and_t cnd_beq_t (cnd_and_t cnd_beq_t (cnd_and_t cnd_beq_t (cnd_and_t cnd_beq_t (cnd_and_t cnd_beq_t (cnd_and_t cnd_beq_t (cnd_and_t cnd_beq_t (cnd_and_t cnd_beq_t (cnd_and_t cnd_beq_t cnd_id_t)))))))))))))))))))))))))))))))) (cnd_and_t (cnd_and_t cnd_beq_t (cnd_and_t cnd_beq_t (cnd_and_t cnd_beq_t (cnd_and_t cnd_beq_t cnd_id_t)))) cnd_id_t)))))))) (cnd_not_f (cnd_and_t cnd_beq_t (cnd_and_t cnd_beq_t cnd_id_t)))) (cnd_not_f (cnd_and_t (cnd_and_t cnd_beq_t (cnd_and_t cnd_beq_t (cnd_and_t cnd_beq_t (cnd_and_t cnd_beq_t (cnd_and_t cnd_beq_t (cnd_and_t cnd_beq_t (cnd_and_t cnd_beq_t (cnd_and_t cnd_beq_t (cnd_and_t cnd_beq_t (cnd_and_t cnd_beq_t (cnd_and_t cnd_beq_t (cnd_and_t cnd_beq_t (cnd_and_t cnd_beq_t (cnd_and_t cnd_beq_t (cnd_and_t cnd_beq_t (cnd_and_t cnd_beq_t (cnd_and_t cnd_beq_t (cnd_and_t cnd_beq_t (cnd_and_t cnd_beq_t (cnd_and_t cnd_beq_t (cnd_and_t cnd_beq_t (cnd_and_t cnd_beq_t (cnd_and_t cnd_beq_t (cnd_and_t cnd_beq_t (cnd_and_t cnd_beq_t (cnd_and_t cnd_beq_t (cnd_and_t cnd_beq_t (cnd_and_t cnd_beq_t (cnd_and_t cnd_beq_t (cnd_and_t cnd_beq_t (cnd_and_t cnd_beq_t (cnd_and_t cnd_beq_t cnd_id_t)))))))))))))))))))))))))))))))) (cnd_and_t cnd_beq_t (cnd_and_t cnd_beq_t cnd_id_t))))) cnd_bne_f) cnd_id_f) h1
    refine k_loop (fun _ hs => hs.le (by repeat' (first | exact trivial | (first | exact Ent.refl _ | exact inc_ent (by omega) | exact Ent.nil rfl | exact Ent.of_eq (congrArg (AV.osl _ _ _) (by first | omega | (dsimp only; omega))) | exact Ent.of_eq (congrArg (AV.int _) (by first | omega | (dsimp only; omega)))) | refine And.intro ?_ ?_)) (by repeat' (first | exact trivial | (first | exact ObEnt.refl _ | exact ObEnt.junk | exact ObEnt.zero | exact ObEnt.push rfl rfl | exact ObEnt.pushRow rfl | exact ObEnt.len (by omega) | exact ObEnt.row (by repeat' (first | exact trivial | (first | exact Ent.refl _ | exact inc_ent (by omega) | exact Ent.nil rfl | exact Ent.of_eq (congrArg (AV.osl _ _ _) (by first | omega | (dsimp only; omega))) | exact Ent.of_eq (congrArg (AV.int _) (by first | omega | (dsimp only; omega)))) | refine And.intro ?_ ?_))) | refine And.intro ?_ ?_))) (fun x3 => ?_)
    try (have q3 := x3.2; dsimp only at q3)
    refine k_br (fun h4 => ?_) (fun h4 => ?_)
    · have g4 := cnd_dec_t h4
      refine k_req (by omega) ?_
      refine k_req (by omega) ?_
      refine k_br (fun h7 => ?_) (fun h7 => ?_)
      · have g7 := (cnd_not_t (cnd_and_f cnd_beq_f (cnd_and_f cnd_beq_f (cnd_and_f cnd_beq_f cnd_id_f)))) h7
        try simp only [Int.toNat_natCast] at g7
        exact k_out (Ent.of_eq (by simp_all))
      · have g7 := (cnd_not_f (cnd_and_t cnd_beq_t (cnd_and_t cnd_beq_t (cnd_and_t cnd_beq_t cnd_id_t)))) h7
        try simp only [Int.toNat_natCast] at g7
        exact k_again (⟨x3.1 + 1, by omega⟩) (fun _ hs => hs.le (by repeat' (first | exact trivial | (first | exact Ent.refl _ | exact inc_ent (by omega) | exact Ent.nil rfl | exact Ent.of_eq (congrArg (AV.osl _ _ _) (by first | omega | (dsimp only; omega))) | exact Ent.of_eq (congrArg (AV.int _) (by first | omega | (dsimp only; omega)))) | refine And.intro ?_ ?_)) (by repeat' (first | exact trivial | (first | exact ObEnt.refl _ | exact ObEnt.junk | exact ObEnt.zero | exact ObEnt.push rfl rfl | exact ObEnt.pushRow rfl | exact ObEnt.len (by omega) | exact ObEnt.row (by repeat' (first | exact trivial | (first | exact Ent.refl _ | exact inc_ent (by omega) | exact Ent.nil rfl | exact Ent.of_eq (congrArg (AV.osl _ _ _) (by first | omega | (dsimp only; omega))) | exact Ent.of_eq (congrArg (AV.int _) (by first | omega | (dsimp only; omega)))) | refine And.intro ?_ ?_))) | refine And.intro ?_ ?_))) (by (dsimp only; omega))
    · have g4 := cnd_dec_f h4
      exact k_out (Ent.of_eq (by rfl))

theorem same33_c (s t : Spend) (l : Int) (h1 : s.nl ≤ 1000) (h2 : s.np ≤ 1000) (h3 : t.nl ≤ 1000) (h4 : t.np ≤ 1000) : Pure Tryz.prog gl0 41 [gul s t l, gul s t l] (.bool true) := by
  have c1 := same32_c s h1 h2
  have c2 := same32_c t h3 h4
  refine pure_sk (own := ow0) Tryz.func41 (by kernel_rfl) mixed (by kernel_rfl)
    (.sc (true) 16 ([AV.agg (Spend.cells s), AV.agg (Spend.cells s)]) (AV.bool true) (.sc (true) 16 ([AV.agg (Spend.cells t), AV.agg (Spend.cells t)]) (AV.bool true) (.out (AV.bool (l == l)) [] (AV.bool true) [])))
    (by kernel_rfl) ?_
  refine k_sc (c1) ?_
  refine k_sc (c2) ?_
  exact k_out (Ent.of_eq (by simp_all))

end Go.Proofs.YtdaaddkipdmajaaGreatDoor

namespace Go.Sp
open Go Go.Am
structure ClOk (b : Bas) (s : Spend) (u : Int) : Prop where
  v : validB b = true
  ok : okS s = true
  odd : ¬ firstI (oddB b s) s.nl 0 ≥ 0
  u : 0 ≤ u ∧ u < b.gr.q
  n : s.number < 1073741824
theorem sec_ne {b : Bas} {s t : Spend} {l : Int} (h : (secR b s t l).2 = 0) : ¬ chS b s = chS b t := by
  unfold secR at h
  intro e
  split at h
  · cases h
  split at h
  · cases h
  split at h
  · cases h
  split at h
  · cases h
  first | cases h | (rw [if_pos e] at h; cases h)
end Go.Sp

namespace Go.Sp
open Go Go.Am
theorem okI_ne {b : Bas} {s t : Spend} {i : Nat} (h : okI b s t i = true) : ¬ chS b s = chS b t := by
  unfold okI at h
  have h := beq_iff_eq.1 h
  by_cases e : (secR b s t ((sharedL s t).getD i 0)).2 = 0
  · exact sec_ne e
  · rw [glK_1 e] at h; exact absurd h e
theorem prvI_no {b : Bas} {s t : Spend} (h : ∀ i, i < (sharedL s t).length → okI b s t i = false) : ¬ prvI b s t ≥ 0 := of_decide_eq_false (fst_no h)
theorem okI_sm {b : Bas} {s t : Spend} (h : chS b s = chS b t) (i : Nat) : okI b s t i = false := by
  cases e : okI b s t i with
  | false => rfl
  | true => exact absurd h (okI_ne e)
theorem prv_0s {b : Bas} {R : Nat → Nat → Int} {n : Nat} {s t : Spend} (h : validB b = true ∧ (okS s = true ∧ okS t = true)) (h2 : fnS R n s ≥ 0 ∧ fnS R n t ≥ 0) (h3 : verd b R n s = true ∧ verd b R n t = true)
    (hl : (sharedL s t).length = 0) : prvE b R n s t = 7 := by
  rw [prv_4 h h2 h3, if_neg (prvI_no fun i hi => by omega), if_pos hl]
theorem prv_sm {b : Bas} {R : Nat → Nat → Int} {n : Nat} {s t : Spend} (h : validB b = true ∧ (okS s = true ∧ okS t = true)) (h2 : fnS R n s ≥ 0 ∧ fnS R n t ≥ 0) (h3 : verd b R n s = true ∧ verd b R n t = true)
    (hl : ¬ (sharedL s t).length = 0) (hc : chS b s = chS b t) : prvE b R n s t = 20 := by
  rw [prv_4 h h2 h3, if_neg (prvI_no fun i _ => okI_sm hc i), if_neg hl, if_pos hc]
theorem prv_z {b : Bas} {R : Nat → Nat → Int} {n : Nat} {s t : Spend} {i : Nat} (h : validB b = true ∧ (okS s = true ∧ okS t = true)) (h2 : fnS R n s ≥ 0 ∧ fnS R n t ≥ 0) (h3 : verd b R n s = true ∧ verd b R n t = true)
    (hl : ¬ (sharedL s t).length = 0) (hc : ¬ chS b s = chS b t) (hi : (sharedL s t).length ≤ i) (hx : firstI (okI b s t) (sharedL s t).length 0 = firstI (okI b s t) ((sharedL s t).length - i) i) : prvE b R n s t = 10 := by
  rw [prv_none h h2 h3 hi hx, if_neg hl, if_neg hc]
end Go.Sp

namespace Go.Sp
open Go Go.Am
theorem few_1 {s : Spend} (h : fewB s = true) : s.nl ≤ 1000 ∧ s.np ≤ 1000 := by
  simp [fewB] at h
  omega
theorem zero_1 : Spend.zero.nl ≤ 1000 ∧ Spend.zero.np ≤ 1000 := ⟨Nat.zero_le _, Nat.zero_le _⟩
theorem prS_1 {b : Bas} {R : Nat → Nat → Int} {n : Nat} {s t : Spend} (h : fewB s = true ∧ fewB t = true) : (prS b R n s t).nl ≤ 1000 ∧ (prS b R n s t).np ≤ 1000 := by
  unfold prS
  split
  · exact few_1 h.1
  · exact zero_1
theorem prT_1 {b : Bas} {R : Nat → Nat → Int} {n : Nat} {s t : Spend} (h : fewB s = true ∧ fewB t = true) : (prT b R n s t).nl ≤ 1000 ∧ (prT b R n s t).np ≤ 1000 := by
  unfold prT
  split
  · exact few_1 h.2
  · exact zero_1
theorem okI_t {b : Bas} {s t : Spend} {i : Nat} (h : (glK b s t ((sharedL s t).getD i 0)).2 = 0) : okI b s t i = true := by unfold okI; rw [h]; rfl
theorem okI_f {b : Bas} {s t : Spend} {i : Nat} (h : ¬ (glK b s t ((sharedL s t).getD i 0)).2 = 0) : okI b s t i = false := by unfold okI; simpa using h
theorem firstI_all {p : Nat → Bool} {n i : Nat} (hx : firstI p n 0 = firstI p (n - i) i) (h : n ≤ i) : ∀ j, j < n → p j = false := fun j hj => by
  have e : -1 = firstI p n 0 := first_miss hx h
  cases hp : p j with
  | false => rfl
  | true =>
    have hn : decide (firstI p n 0 ≥ 0) = true := by
      rw [firstI_neg]
      exact List.any_eq_true.2 ⟨j, List.mem_range.2 hj, by rw [Nat.zero_add]; exact hp⟩
    have := of_decide_eq_true hn
    omega
theorem prv_end {os : List (Option Ob)} {b : Bas} {R : Nat → Nat → Int} {n : Nat} {s t : Spend} {i : Nat} (h : validB b = true ∧ (okS s = true ∧ okS t = true)) (h2 : fnS R n s ≥ 0 ∧ fnS R n t ≥ 0) (h3 : verd b R n s = true ∧ verd b R n t = true)
    (hx : firstI (okI b s t) (sharedL s t).length 0 = firstI (okI b s t) ((sharedL s t).length - i) i) (hi : i = (sharedL s t).length) :
    Ent os (.tup [.agg (Spend.zero.cw .nsl .nsl ++ (Spend.zero.cw .nsl .nsl ++ [.int .i64 0])), .int .i64 (erA b s t i)]) (prvV b R n s t) := by
  have e := er_end (b := b) (R := R) (n := n) h3 (firstI_all hx (by omega))
  have e2 := prv_none h h2 h3 (by omega) hx
  rw [← hi] at e
  refine prv_e (by rw [e2, e, hi]) ?_
  rw [e]
  split
  · decide
  · split <;> decide
theorem vd_no {b : Bas} {R : Nat → Nat → Int} {n : Nat} {s t : Spend} (_h2 : fnS R n s ≥ 0 ∧ fnS R n t ≥ 0) (h : vfy b (rcX R n s) s = false ∨ vfy b (rcX R n t) t = false) : verd b R n s = false ∨ verd b R n t = false := by
  unfold verd
  rcases h with h | h
  · exact .inl (by rw [h, Bool.and_false])
  · exact .inr (by rw [h, Bool.and_false])
theorem vd_yes {b : Bas} {R : Nat → Nat → Int} {n : Nat} {s t : Spend} (h2 : fnS R n s ≥ 0 ∧ fnS R n t ≥ 0) (h : vfy b (rcX R n s) s = true ∧ vfy b (rcX R n t) t = true) : verd b R n s = true ∧ verd b R n t = true := by
  unfold verd
  exact ⟨by rw [h.1, decide_eq_true h2.1]; rfl, by rw [h.2, decide_eq_true h2.2]; rfl⟩
theorem okI_xt {b : Bas} {R : Nat → Nat → Int} {n : Nat} {s t : Spend} {i : Nat} (h : xvB b R n s t ((sharedL s t).getD i 0) = true) : okI b s t i = true := by
  unfold xvB at h
  unfold okI
  simp only [Bool.and_eq_true] at h
  exact h.2
theorem okI_xf {b : Bas} {R : Nat → Nat → Int} {n : Nat} {s t : Spend} {i : Nat} (h3 : verd b R n s = true ∧ verd b R n t = true) (h : xvB b R n s t ((sharedL s t).getD i 0) = false) : okI b s t i = false := by
  unfold xvB vd2 at h
  unfold okI
  rw [h3.1, h3.2] at h
  exact h
theorem shared_le (s t : Spend) : (sharedL s t).length ≤ s.nl := by
  unfold sharedL
  split
  · exact Nat.zero_le _
  · unfold sharedN
    rw [List.length_map]
    exact Nat.le_trans (List.length_filter_le _ _) (by rw [List.length_range]; exact Nat.le_refl _)
theorem spanZ_b {d l i : Int} (hn : nodeB d l i = true) : spanZ d l i ≤ 1056 := by
  obtain ⟨h1, h2, h3, h4, h5, h6⟩ := node_t hn
  have a := p2 (k := l) (by omega) (by omega)
  have c := p2 (k := d - l) (by omega) (by omega)
  have k := bnd h5 h6 a.2.2.2 c.2.2.1 c.2.2.2
  unfold spanZ
  rw [if_pos hn]
  exact k.2.2.2
theorem sh_bd {s t : Spend} (h : okS s = true) (i : Nat) : (sharedL s t).getD i 0 ≤ 9223372036854775807 := by
  by_cases hi : i < (sharedL s t).length
  · have hm : (sharedL s t).getD i 0 ∈ sharedL s t := by
      rw [List.getD_eq_getElem?_getD, List.getElem?_eq_getElem hi]
      exact List.getElem_mem hi
    have k := sh_mem h hm
    obtain ⟨hn, _, _, hz, _⟩ := okS_all h
    have := spanZ_b hn
    omega
  · rw [List.getD_eq_getElem?_getD, List.getElem?_eq_none (by omega)]
    decide
end Go.Sp

namespace Go.Proofs.YtdaaddkipdmajaaGreatDoor
open Go Go.Am Go.Sp
set_option maxRecDepth 100000

abbrev kFW20 : List AV := [AV.agg [Zi 0, Zi 0, Zi 0, Zi 0, Zi 0, Zb 0, Zb 0, Zb 0, Zb 0, Zb 0, Zb 0, Zb 0, Zb 0, Zb 0, Zb 0, Zb 0, Zb 0, Zb 0, Zb 0, Zb 0, Zb 0, Zb 0, Zb 0, Zb 0, Zb 0, Zb 0, Zb 0, Zb 0, Zb 0, Zb 0, Zb 0, Zb 0, Zb 0, Zb 0, Zb 0, Zb 0, Zb 0, Zi 0, Zi 0, Zi 0, Zi 0, Zi 0, Zi 0, Zb 0, Zb 0, Zb 0, Zb 0, Zb 0, Zb 0, Zb 0, Zb 0, Zb 0, Zb 0, Zb 0, Zb 0, Zb 0, Zb 0, Zb 0, Zb 0, Zb 0, Zb 0, Zb 0, Zb 0, Zb 0, Zb 0, Zb 0, Zb 0, Zb 0, Zb 0, Zb 0, Zb 0, Zb 0, Zb 0, Zb 0, Zb 0, Zi 0, Zi 0, AV.nsl, Zi 0, AV.nsl, Zi 0, Zi 0, Zi 0, Zi 0, Zi 0, Zb 0, Zb 0, Zb 0, Zb 0, Zb 0, Zb 0, Zb 0, Zb 0, Zb 0, Zb 0, Zb 0, Zb 0, Zb 0, Zb 0, Zb 0, Zb 0, Zb 0, Zb 0, Zb 0, Zb 0, Zb 0, Zb 0, Zb 0, Zb 0, Zb 0, Zb 0, Zb 0, Zb 0, Zb 0, Zb 0, Zb 0, Zb 0, Zi 0, Zi 0, Zi 0, Zi 0, Zi 0, Zi 0, Zb 0, Zb 0, Zb 0, Zb 0, Zb 0, Zb 0, Zb 0, Zb 0, Zb 0, Zb 0, Zb 0, Zb 0, Zb 0, Zb 0, Zb 0, Zb 0, Zb 0, Zb 0, Zb 0, Zb 0, Zb 0, Zb 0, Zb 0, Zb 0, Zb 0, Zb 0, Zb 0, Zb 0, Zb 0, Zb 0, Zb 0, Zb 0, Zi 0, Zi 0, AV.nsl, Zi 0, AV.nsl, Zi 0], Zi 18]
abbrev kFW21 : List AV := [AV.agg [Zi 0, Zi 0, Zi 0, Zi 0, Zi 0, Zb 0, Zb 0, Zb 0, Zb 0, Zb 0, Zb 0, Zb 0, Zb 0, Zb 0, Zb 0, Zb 0, Zb 0, Zb 0, Zb 0, Zb 0, Zb 0, Zb 0, Zb 0, Zb 0, Zb 0, Zb 0, Zb 0, Zb 0, Zb 0, Zb 0, Zb 0, Zb 0, Zb 0, Zb 0, Zb 0, Zb 0, Zb 0, Zi 0, Zi 0, Zi 0, Zi 0, Zi 0, Zi 0, Zb 0, Zb 0, Zb 0, Zb 0, Zb 0, Zb 0, Zb 0, Zb 0, Zb 0, Zb 0, Zb 0, Zb 0, Zb 0, Zb 0, Zb 0, Zb 0, Zb 0, Zb 0, Zb 0, Zb 0, Zb 0, Zb 0, Zb 0, Zb 0, Zb 0, Zb 0, Zb 0, Zb 0, Zb 0, Zb 0, Zb 0, Zb 0, Zi 0, Zi 0, AV.nsl, Zi 0, AV.nsl, Zi 0, Zi 0, Zi 0, Zi 0, Zi 0, Zb 0, Zb 0, Zb 0, Zb 0, Zb 0, Zb 0, Zb 0, Zb 0, Zb 0, Zb 0, Zb 0, Zb 0, Zb 0, Zb 0, Zb 0, Zb 0, Zb 0, Zb 0, Zb 0, Zb 0, Zb 0, Zb 0, Zb 0, Zb 0, Zb 0, Zb 0, Zb 0, Zb 0, Zb 0, Zb 0, Zb 0, Zb 0, Zi 0, Zi 0, Zi 0, Zi 0, Zi 0, Zi 0, Zb 0, Zb 0, Zb 0, Zb 0, Zb 0, Zb 0, Zb 0, Zb 0, Zb 0, Zb 0, Zb 0, Zb 0, Zb 0, Zb 0, Zb 0, Zb 0, Zb 0, Zb 0, Zb 0, Zb 0, Zb 0, Zb 0, Zb 0, Zb 0, Zb 0, Zb 0, Zb 0, Zb 0, Zb 0, Zb 0, Zb 0, Zb 0, Zi 0, Zi 0, AV.nsl, Zi 0, AV.nsl, Zi 0], Zi 11]
abbrev kFW22 : List AV := [AV.agg [Zi 0, Zi 0, Zi 0, Zi 0, Zi 0, Zb 0, Zb 0, Zb 0, Zb 0, Zb 0, Zb 0, Zb 0, Zb 0, Zb 0, Zb 0, Zb 0, Zb 0, Zb 0, Zb 0, Zb 0, Zb 0, Zb 0, Zb 0, Zb 0, Zb 0, Zb 0, Zb 0, Zb 0, Zb 0, Zb 0, Zb 0, Zb 0, Zb 0, Zb 0, Zb 0, Zb 0, Zb 0, Zi 0, Zi 0, Zi 0, Zi 0, Zi 0, Zi 0, Zb 0, Zb 0, Zb 0, Zb 0, Zb 0, Zb 0, Zb 0, Zb 0, Zb 0, Zb 0, Zb 0, Zb 0, Zb 0, Zb 0, Zb 0, Zb 0, Zb 0, Zb 0, Zb 0, Zb 0, Zb 0, Zb 0, Zb 0, Zb 0, Zb 0, Zb 0, Zb 0, Zb 0, Zb 0, Zb 0, Zb 0, Zb 0, Zi 0, Zi 0, AV.nsl, Zi 0, AV.nsl, Zi 0, Zi 0, Zi 0, Zi 0, Zi 0, Zb 0, Zb 0, Zb 0, Zb 0, Zb 0, Zb 0, Zb 0, Zb 0, Zb 0, Zb 0, Zb 0, Zb 0, Zb 0, Zb 0, Zb 0, Zb 0, Zb 0, Zb 0, Zb 0, Zb 0, Zb 0, Zb 0, Zb 0, Zb 0, Zb 0, Zb 0, Zb 0, Zb 0, Zb 0, Zb 0, Zb 0, Zb 0, Zi 0, Zi 0, Zi 0, Zi 0, Zi 0, Zi 0, Zb 0, Zb 0, Zb 0, Zb 0, Zb 0, Zb 0, Zb 0, Zb 0, Zb 0, Zb 0, Zb 0, Zb 0, Zb 0, Zb 0, Zb 0, Zb 0, Zb 0, Zb 0, Zb 0, Zb 0, Zb 0, Zb 0, Zb 0, Zb 0, Zb 0, Zb 0, Zb 0, Zb 0, Zb 0, Zb 0, Zb 0, Zb 0, Zi 0, Zi 0, AV.nsl, Zi 0, AV.nsl, Zi 0], Zi 1]
theorem prove_c (b : Bas) (R : Nat → Nat → Int) (n : Nat) (s t : Spend) (hn : n ≤ 1000) (hw : b.gr.W) (hs : s.nl ≤ 1000) (ht : t.nl ≤ 1000) (bs : s.By) (bt : t.By) (ps : s.np ≤ 1000000) (pt : t.np ≤ 1000000) (fs : ∀ k, k < s.np → byB (s.pf k) 32) (ft : ∀ k, k < t.np → byB (t.pf k) 32) :
    Pure Tryz.prog gl0 39 [b.av, rcl n R, s.av, t.av] (prvV b R n s t) := by
  have L := shared_le s t
  have c0 := bvalid_c b hw
  have c1 := formed2_c s t
  have c2 := vrec_c R n s hn
  have c3 := vrec_c R n t hn
  have c4 := vver_c b R n s hn hw bs.root bs.payee fs ps hs
  have c5 := vver_c b R n t hn hw bt.root bt.payee ft pt ht
  have c6 := shared_c s t hs ht
  have c7 := fun leaf => guilty_c b s t leaf hw hs ht bs bt
  refine pure_sk (own := ow0) Tryz.func39 (by kernel_rfl) mixed (by kernel_rfl)
    (let y0 : List AV := [Zi 0, Zi 0, Zi 0, Zi 0, Zi 0, Zb 0, Zb 0, Zb 0, Zb 0, Zb 0, Zb 0, Zb 0, Zb 0, Zb 0, Zb 0, Zb 0, Zb 0, Zb 0, Zb 0, Zb 0, Zb 0, Zb 0, Zb 0, Zb 0, Zb 0, Zb 0, Zb 0, Zb 0, Zb 0, Zb 0, Zb 0, Zb 0, Zb 0, Zb 0, Zb 0, Zb 0, Zb 0, Zi 0, Zi 0, Zi 0, Zi 0, Zi 0, Zi 0, Zb 0, Zb 0, Zb 0, Zb 0, Zb 0, Zb 0, Zb 0, Zb 0, Zb 0, Zb 0, Zb 0, Zb 0, Zb 0, Zb 0, Zb 0, Zb 0, Zb 0, Zb 0, Zb 0, Zb 0, Zb 0, Zb 0, Zb 0, Zb 0, Zb 0, Zb 0, Zb 0, Zb 0, Zb 0, Zb 0, Zb 0, Zb 0, Zi 0, Zi 0, AV.nsl, Zi 0, AV.nsl, Zi 0, Zi 0, Zi 0, Zi 0, Zi 0, Zb 0, Zb 0, Zb 0, Zb 0, Zb 0, Zb 0, Zb 0, Zb 0, Zb 0, Zb 0, Zb 0, Zb 0, Zb 0, Zb 0, Zb 0, Zb 0, Zb 0, Zb 0, Zb 0, Zb 0, Zb 0, Zb 0, Zb 0, Zb 0, Zb 0, Zb 0, Zb 0, Zb 0, Zb 0, Zb 0, Zb 0, Zb 0, Zi 0, Zi 0, Zi 0, Zi 0, Zi 0, Zi 0, Zb 0, Zb 0, Zb 0, Zb 0, Zb 0, Zb 0, Zb 0, Zb 0, Zb 0, Zb 0, Zb 0, Zb 0, Zb 0, Zb 0, Zb 0, Zb 0, Zb 0, Zb 0, Zb 0, Zb 0, Zb 0, Zb 0, Zb 0, Zb 0, Zb 0, Zb 0, Zb 0, Zb 0, Zb 0, Zb 0, Zb 0, Zb 0, Zi 0, Zi 0, AV.nsl, Zi 0, AV.nsl, Zi 0]; let y1 : List (Option Ob) := [some ⟨6, 1, true, Rep.lst [Bas.cells b]⟩, some ⟨80, 1, true, Rep.lst [Spend.cells s]⟩, some ⟨80, 1, true, Rep.lst [Spend.cells t]⟩, some ⟨161, 1, true, Rep.lst [y0]⟩]; (.sc (true) 105 ([AV.isl 11 n fun (i j : Nat) => Zi (R i j), AV.agg (Spend.cells s)]) (AV.tup [Rcd.av (rcX R n s), AV.bool (decide (fnS R n s ≥ 0))]) (.sc (true) 105 ([AV.isl 11 n fun (i j : Nat) => Zi (R i j), AV.agg (Spend.cells t)]) (AV.tup [Rcd.av (rcX R n t), AV.bool (decide (fnS R n t ≥ 0))]) (.sc (true) 52 ([AV.agg (Bas.cells b)]) (AV.bool (validB b)) (.sc ((!validB b) == false) 98 ([AV.isl 80 2 fun (r k : Nat) => atL (List.getD [Spend.cells s, Spend.cells t] (r + 0) []) k]) (AV.bool (okS s && okS t)) (.br (!validB b || !(okS s && okS t)) (.out (AV.tup kFW22) [] (prvV b R n s t) []) (.br (!decide (fnS R n s ≥ 0) || !decide (fnS R n t ≥ 0)) (.out (AV.tup kFW20) [] (prvV b R n s t) []) (.sc (true) 99 ([AV.agg (Bas.cells b), AV.isl 11 n fun (i j : Nat) => Zi (R i j), AV.agg (Spend.cells s)]) (AV.bool (verd b R n s)) (.sc ((!verd b R n s) == false) 99 ([AV.agg (Bas.cells b), AV.isl 11 n fun (i j : Nat) => Zi (R i j), AV.agg (Spend.cells t)]) (AV.bool (verd b R n t)) (.br (!verd b R n s || !verd b R n t) (.out (AV.tup kFW21) [] (prvV b R n s t) []) (.dc (true) 106 ([AV.agg (Spend.cells s), AV.agg (Spend.cells t)]) (il IntKind.i64 (sharedL s t)) (.loop ({ x : Nat // x ≤ List.length (sharedL s t) ∧ (fun (i : Nat) => firstI (okI b s t) (List.length (sharedL s t)) 0 = firstI (okI b s t) (List.length (sharedL s t) - i) i) x }) (fun (x : { x : Nat // x ≤ List.length (sharedL s t) ∧ (fun (i : Nat) => firstI (okI b s t) (List.length (sharedL s t)) 0 = firstI (okI b s t) (List.length (sharedL s t) - i) i) x }) => mkSt [4, 6, 7, 8, 65, 66, 14, 67] [AV.own 0 6 0 0 6, AV.own 1 80 0 0 80, AV.own 2 80 0 0 80, AV.own 3 161 0 0 161, AV.isl 1 (List.length (sharedL s t)) fun (i x : Nat) => Zi (List.getD (sharedL s t) i (0 : Int)), Zi (↑(List.length (sharedL s t)) : Int), Zi (erA b s t (x.1)), Zi (↑(x.1) : Int)] y1) (fun (x : { x : Nat // x ≤ List.length (sharedL s t) ∧ (fun (i : Nat) => firstI (okI b s t) (List.length (sharedL s t)) 0 = firstI (okI b s t) (List.length (sharedL s t) - i) i) x }) => List.length (sharedL s t) - x.1) (⟨0, ⟨Nat.zero_le (List.length (sharedL s t)), rfl⟩⟩) ([4, 6, 7, 8, 65, 66, 14, 67]) ([0, 8, 16, 24]) ([AV.own 0 6 0 0 6, AV.own 1 80 0 0 80, AV.own 2 80 0 0 80, AV.own 3 161 0 0 161, AV.isl 1 (List.length (sharedL s t)) fun (i x : Nat) => Zi (List.getD (sharedL s t) i (0 : Int)), Zi (↑(List.length (sharedL s t)) : Int), Zi 7, Zi 0]) (y1) (fun x13 => (.br (decide ((↑x13.1 : Int) < (↑(List.length (sharedL s t)) : Int))) (.req ((0 : Int) ≤ (↑x13.1 : Int) ∧ (↑x13.1 : Int) < (↑(List.length (sharedL s t)) : Int)) (.sc (true) 100 ([AV.agg (Bas.cells b), AV.agg (Spend.cells s), AV.agg (Spend.cells t), Zi (List.getD (sharedL s t) (Int.toNat (↑x13.1 : Int)) (0 : Int))]) (AV.tup [Zi (Prod.fst (glK b s t (List.getD (sharedL s t) (Int.toNat (↑x13.1 : Int)) (0 : Int)))), Zi (Prod.snd (glK b s t (List.getD (sharedL s t) (Int.toNat (↑x13.1 : Int)) (0 : Int))))]) (.br ((glK b s t (List.getD (sharedL s t) (Int.toNat (↑x13.1 : Int)) (0 : Int))).2 == 0) (.out (AV.tup [AV.agg (Spend.cells s ++ (Spend.cells t ++ [Zi (List.getD (sharedL s t) (Int.toNat (↑x13.1 : Int)) (0 : Int))])), Zi 0]) [] (prvV b R n s t) []) (.again (Again 0 (fun (x : { x : Nat // x ≤ List.length (sharedL s t) ∧ (fun (i : Nat) => firstI (okI b s t) (List.length (sharedL s t)) 0 = firstI (okI b s t) (List.length (sharedL s t) - i) i) x }) => mkSt [4, 6, 7, 8, 65, 66, 14, 67] [AV.own 0 6 0 0 6, AV.own 1 80 0 0 80, AV.own 2 80 0 0 80, AV.own 3 161 0 0 161, AV.isl 1 (List.length (sharedL s t)) fun (i x : Nat) => Zi (List.getD (sharedL s t) i (0 : Int)), Zi (↑(List.length (sharedL s t)) : Int), Zi (erA b s t (x.1)), Zi (↑(x.1) : Int)] y1) (fun (x : { x : Nat // x ≤ List.length (sharedL s t) ∧ (fun (i : Nat) => firstI (okI b s t) (List.length (sharedL s t)) 0 = firstI (okI b s t) (List.length (sharedL s t) - i) i) x }) => List.length (sharedL s t) - x.1) x13) ([4, 6, 7, 8, 65, 66, 14, 67]) ([0, 1, 2, 3]) ([AV.own 0 6 0 0 6, AV.own 1 80 0 0 80, AV.own 2 80 0 0 80, AV.own 3 161 0 0 161, AV.isl 1 (List.length (sharedL s t)) fun (i x : Nat) => Zi (List.getD (sharedL s t) i (0 : Int)), Zi (↑(List.length (sharedL s t)) : Int), Zi (glK b s t (List.getD (sharedL s t) (Int.toNat (↑x13.1 : Int)) (0 : Int))).2, Zi (IntKind.wrap IntKind.i64 ((↑x13.1 : Int) + 1))]) (y1))))) (.out (AV.tup [AV.agg y0, Zi (erA b s t x13.1)]) [] (prvV b R n s t) [])))))))))))))))
    (by kernel_rfl) ?_
  refine k_sc (c2) ?_
  refine k_sc (c3) ?_
  refine k_sc (c0) ?_
  refine k_scg (fun h3 => c1) ?_
  refine k_br (fun h4 => ?_) (fun h4 => ?_)
  · have g4 := (cnd_or_t (cnd_not_t cnd_id_f) (cnd_not_t (cnd_and_f cnd_id_f cnd_id_f))) h4
    exact k_out (prv_e (prv_1 g4) (by decide))
  · have g4 := (cnd_or_f (cnd_not_f cnd_id_t) (cnd_not_f (cnd_and_t cnd_id_t cnd_id_t))) h4
    refine k_br (fun h6 => ?_) (fun h6 => ?_)
    · have g6 := (cnd_or_t (cnd_not_t cnd_dec_f) (cnd_not_t cnd_dec_f)) h6
      exact k_out (prv_e (prv_2 g4 g6) (by decide))
    · have g6 := (cnd_or_f (cnd_not_f cnd_dec_t) (cnd_not_f cnd_dec_t)) h6
      refine k_sc (c4) ?_
      refine k_scg (fun h9 => c5) ?_
      refine k_br (fun h10 => ?_) (fun h10 => ?_)
      · have g10 := (cnd_or_t (cnd_not_t cnd_id_f) (cnd_not_t cnd_id_f)) h10
        exact k_out (prv_e (prv_3 g4 g6 g10) (by decide))
      · have g10 := (cnd_or_f (cnd_not_f cnd_id_t) (cnd_not_f cnd_id_t)) h10
        refine k_dc (c6) ?_
        refine k_loop (fun _ hs => hs.le (⟨.refl _, .refl _, .refl _, .refl _, .refl _, .refl _, Ent.of_eq rfl, .refl _, trivial⟩) (⟨.refl _, .refl _, .refl _, .refl _, trivial⟩)) (fun x13 => ?_)
        try (have q13 := x13.2; dsimp only at q13)
        refine k_br (fun h14 => ?_) (fun h14 => ?_)
        · have g14 := cnd_dec_t h14
          refine k_req (by omega) ?_
          refine k_sc (c7 (List.getD (sharedL s t) (Int.toNat (↑x13.1 : Int)) (0 : Int))) ?_
          refine k_br (fun h17 => ?_) (fun h17 => ?_)
          · have g17 := cnd_beq_t h17
            try simp only [Int.toNat_natCast] at g17
            exact k_out (Ent.of_eq (prv_ok g4 g6 g10 (by omega) x13.2.2 (okI_t g17)))
          · have g17 := cnd_beq_f h17
            try simp only [Int.toNat_natCast] at g17
            exact k_again (⟨x13.1 + 1, by omega, first_next x13.2.2 (by omega) (okI_f g17)⟩) (fun _ hs => hs.le (⟨.refl _, .refl _, .refl _, .refl _, .refl _, .refl _, Ent.of_eq rfl, inc_ent (by omega), trivial⟩) (⟨.refl _, .refl _, .refl _, .refl _, trivial⟩)) (by dsimp only; omega)
        · have g14 := cnd_dec_f h14
          exact k_out (prv_end g4 g6 g10 x13.2.2 (by omega))

theorem rshared_y (s t : Spend) (hs : s.nl ≤ 1000) (ht : t.nl ≤ 1000) (h : okS s = true ∧ okS t = true) : Pure Tryz.prog gl0 107 [s.av, t.av] (.tup [il .i64 (sharedL s t), .int .i64 0]) := by
  have c := rshared_c s t hs ht
  rw [h.1, h.2] at c
  exact c

theorem rprove_c (b : Bas) (R : Nat → Nat → Int) (n : Nat) (s t : Spend) (hn : n ≤ 1000) (hw : b.gr.W) (hs : s.nl ≤ 1000) (ht : t.nl ≤ 1000) (bs : s.By) (bt : t.By) (ps : s.np ≤ 1000000) (pt : t.np ≤ 1000000) (fs : ∀ k, k < s.np → byB (s.pf k) 32) (ft : ∀ k, k < t.np → byB (t.pf k) 32) :
    Pure Tryz.prog gl0 40 [b.av, rcl n R, s.av, t.av] (prvV b R n s t) := by
  have L := shared_le s t
  have c0 := r11valid_c b hw
  have c1 := rformed_c s
  have c1' := rformed_c t
  have c2 := rvrec_c R n s hn
  have c3 := rvrec_c R n t hn
  have c4 := rvfy_c b (rcX R n s) s hw bs.root bs.payee fs ps hs
  have c5 := rvfy_c b (rcX R n t) t hw bt.root bt.payee ft pt ht
  have c6 := fun h => rshared_y s t hs ht h
  have c7 := fun h h' => r33chal_c b s bs h h'
  have c8 := fun h h' => r33chal_c b t bt h h'
  have c9 := fun leaf h => rxverify_c b R n s t leaf h hn hw hs ht bs bt ps pt fs ft
  refine pure_sk (own := ow0) Tryz.func40 (by kernel_rfl) mixed (by kernel_rfl)
    (let y0 : List AV := [Zi 0, Zi 0, Zi 0, Zi 0, Zi 0, Zb 0, Zb 0, Zb 0, Zb 0, Zb 0, Zb 0, Zb 0, Zb 0, Zb 0, Zb 0, Zb 0, Zb 0, Zb 0, Zb 0, Zb 0, Zb 0, Zb 0, Zb 0, Zb 0, Zb 0, Zb 0, Zb 0, Zb 0, Zb 0, Zb 0, Zb 0, Zb 0, Zb 0, Zb 0, Zb 0, Zb 0, Zb 0, Zi 0, Zi 0, Zi 0, Zi 0, Zi 0, Zi 0, Zb 0, Zb 0, Zb 0, Zb 0, Zb 0, Zb 0, Zb 0, Zb 0, Zb 0, Zb 0, Zb 0, Zb 0, Zb 0, Zb 0, Zb 0, Zb 0, Zb 0, Zb 0, Zb 0, Zb 0, Zb 0, Zb 0, Zb 0, Zb 0, Zb 0, Zb 0, Zb 0, Zb 0, Zb 0, Zb 0, Zb 0, Zb 0, Zi 0, Zi 0, AV.nsl, Zi 0, AV.nsl, Zi 0, Zi 0, Zi 0, Zi 0, Zi 0, Zb 0, Zb 0, Zb 0, Zb 0, Zb 0, Zb 0, Zb 0, Zb 0, Zb 0, Zb 0, Zb 0, Zb 0, Zb 0, Zb 0, Zb 0, Zb 0, Zb 0, Zb 0, Zb 0, Zb 0, Zb 0, Zb 0, Zb 0, Zb 0, Zb 0, Zb 0, Zb 0, Zb 0, Zb 0, Zb 0, Zb 0, Zb 0, Zi 0, Zi 0, Zi 0, Zi 0, Zi 0, Zi 0, Zb 0, Zb 0, Zb 0, Zb 0, Zb 0, Zb 0, Zb 0, Zb 0, Zb 0, Zb 0, Zb 0, Zb 0, Zb 0, Zb 0, Zb 0, Zb 0, Zb 0, Zb 0, Zb 0, Zb 0, Zb 0, Zb 0, Zb 0, Zb 0, Zb 0, Zb 0, Zb 0, Zb 0, Zb 0, Zb 0, Zb 0, Zb 0, Zi 0, Zi 0, AV.nsl, Zi 0, AV.nsl, Zi 0]; let y1 : List (Option Ob) := [some ⟨6, 1, true, Rep.lst [Bas.cells b]⟩, some ⟨80, 1, true, Rep.lst [Spend.cells s]⟩, some ⟨80, 1, true, Rep.lst [Spend.cells t]⟩, some ⟨161, 1, true, Rep.lst [y0]⟩]; (.sc (true) 19 ([AV.agg (Bas.cells b)]) (AV.bool (validB b)) (.sc ((!validB b) == false) 42 ([AV.agg (Spend.cells s)]) (AV.bool (okS s)) (.sc ((!validB b || !okS s) == false) 42 ([AV.agg (Spend.cells t)]) (AV.bool (okS t)) (.br (!validB b || !okS s || !okS t) (.out (AV.tup kFW22) [] (prvV b R n s t) []) (.sc (true) 101 ([AV.isl 11 n fun (i j : Nat) => Zi (R i j), AV.agg (Spend.cells s)]) (AV.tup [Rcd.av (rcX R n s), AV.bool (decide (fnS R n s ≥ 0))]) (.sc (true) 101 ([AV.isl 11 n fun (i j : Nat) => Zi (R i j), AV.agg (Spend.cells t)]) (AV.tup [Rcd.av (rcX R n t), AV.bool (decide (fnS R n t ≥ 0))]) (.br (!decide (fnS R n s ≥ 0) || !decide (fnS R n t ≥ 0)) (.out (AV.tup kFW20) [] (prvV b R n s t) []) (.sc (true) 18 ([AV.agg (Bas.cells b), AV.agg (Rcd.cells (rcX R n s)), AV.agg (Spend.cells s)]) (AV.bool (vfy b (rcX R n s) s)) (.sc ((!vfy b (rcX R n s) s) == false) 18 ([AV.agg (Bas.cells b), AV.agg (Rcd.cells (rcX R n t)), AV.agg (Spend.cells t)]) (AV.bool (vfy b (rcX R n t) t)) (.br (!vfy b (rcX R n s) s || !vfy b (rcX R n t) t) (.out (AV.tup kFW21) [] (prvV b R n s t) []) (.dc (true) 107 ([AV.agg (Spend.cells s), AV.agg (Spend.cells t)]) (AV.tup [il IntKind.i64 (sharedL s t), Zi 0]) (.br ((↑(List.length (sharedL s t)) : Int) == 0) (.out (AV.tup [AV.agg y0, Zi 7]) [] (prvV b R n s t) []) (.sc (true) 108 ([AV.agg (Bas.cells b), AV.agg (Spend.cells s)]) (Zi (chS b s)) (.sc (true) 108 ([AV.agg (Bas.cells b), AV.agg (Spend.cells t)]) (Zi (chS b t)) (.br (chS b s == chS b t) (.out (AV.tup [AV.agg y0, Zi 20]) [] (prvV b R n s t) []) (.loop ({ x : Nat // x ≤ List.length (sharedL s t) ∧ (fun (i : Nat) => firstI (okI b s t) (List.length (sharedL s t)) 0 = firstI (okI b s t) (List.length (sharedL s t) - i) i) x }) (fun (x : { x : Nat // x ≤ List.length (sharedL s t) ∧ (fun (i : Nat) => firstI (okI b s t) (List.length (sharedL s t)) 0 = firstI (okI b s t) (List.length (sharedL s t) - i) i) x }) => mkSt [1, 4, 6, 7, 8, 14, 16] [AV.isl 11 n fun (i j : Nat) => Zi (R i j), AV.own 0 6 0 0 6, AV.own 1 80 0 0 80, AV.own 2 80 0 0 80, AV.own 3 161 0 0 161, AV.isl 1 (List.length (sharedL s t)) fun (i x : Nat) => Zi (List.getD (sharedL s t) i (0 : Int)), Zi (↑(x.1) : Int)] y1) (fun (x : { x : Nat // x ≤ List.length (sharedL s t) ∧ (fun (i : Nat) => firstI (okI b s t) (List.length (sharedL s t)) 0 = firstI (okI b s t) (List.length (sharedL s t) - i) i) x }) => List.length (sharedL s t) - x.1) (⟨0, ⟨Nat.zero_le (List.length (sharedL s t)), rfl⟩⟩) ([1, 4, 6, 7, 8, 14, 16]) ([0, 8, 16, 24]) ([AV.isl 11 n fun (i j : Nat) => Zi (R i j), AV.own 0 6 0 0 6, AV.own 1 80 0 0 80, AV.own 2 80 0 0 80, AV.own 3 161 0 0 161, AV.isl 1 (List.length (sharedL s t)) fun (i x : Nat) => Zi (List.getD (sharedL s t) i (0 : Int)), Zi 0]) (y1) (fun x20 => (.br (decide ((↑x20.1 : Int) < (↑(List.length (sharedL s t)) : Int))) (.req ((0 : Int) ≤ (↑x20.1 : Int) ∧ (↑x20.1 : Int) < (↑(List.length (sharedL s t)) : Int)) (.sc (true) 38 ([AV.agg (Bas.cells b), AV.isl 11 n fun (i j : Nat) => Zi (R i j), AV.agg (Spend.cells s ++ (Spend.cells t ++ [Zi (List.getD (sharedL s t) (Int.toNat (↑x20.1 : Int)) (0 : Int))]))]) (AV.tup [Zi (xvK b R n s t (List.getD (sharedL s t) (Int.toNat (↑x20.1 : Int)) (0 : Int))), AV.bool (xvB b R n s t (List.getD (sharedL s t) (Int.toNat (↑x20.1 : Int)) (0 : Int)))]) (.br (xvB b R n s t (List.getD (sharedL s t) (Int.toNat (↑x20.1 : Int)) (0 : Int))) (.out (AV.tup [AV.agg (Spend.cells s ++ (Spend.cells t ++ [Zi (List.getD (sharedL s t) (Int.toNat (↑x20.1 : Int)) (0 : Int))])), Zi 0]) [] (prvV b R n s t) []) (.again (Again 0 (fun (x : { x : Nat // x ≤ List.length (sharedL s t) ∧ (fun (i : Nat) => firstI (okI b s t) (List.length (sharedL s t)) 0 = firstI (okI b s t) (List.length (sharedL s t) - i) i) x }) => mkSt [1, 4, 6, 7, 8, 14, 16] [AV.isl 11 n fun (i j : Nat) => Zi (R i j), AV.own 0 6 0 0 6, AV.own 1 80 0 0 80, AV.own 2 80 0 0 80, AV.own 3 161 0 0 161, AV.isl 1 (List.length (sharedL s t)) fun (i x : Nat) => Zi (List.getD (sharedL s t) i (0 : Int)), Zi (↑(x.1) : Int)] y1) (fun (x : { x : Nat // x ≤ List.length (sharedL s t) ∧ (fun (i : Nat) => firstI (okI b s t) (List.length (sharedL s t)) 0 = firstI (okI b s t) (List.length (sharedL s t) - i) i) x }) => List.length (sharedL s t) - x.1) x20) ([1, 4, 6, 7, 8, 14, 16]) ([0, 1, 2, 3]) ([AV.isl 11 n fun (i j : Nat) => Zi (R i j), AV.own 0 6 0 0 6, AV.own 1 80 0 0 80, AV.own 2 80 0 0 80, AV.own 3 161 0 0 161, AV.isl 1 (List.length (sharedL s t)) fun (i x : Nat) => Zi (List.getD (sharedL s t) i (0 : Int)), Zi (IntKind.wrap IntKind.i64 ((↑x20.1 : Int) + 1))]) (y1))))) (.out (AV.tup [AV.agg y0, Zi 10]) [] (prvV b R n s t) []))))))))))))))))))))
    (by kernel_rfl) ?_
  refine k_sc (c0) ?_
  refine k_scg (fun h1 => c1) ?_
  refine k_scg (fun h2 => c1') ?_
  refine k_br (fun h3 => ?_) (fun h3 => ?_)
  · have g3 := (cnd_or_t (cnd_or_t (cnd_not_t cnd_id_f) (cnd_not_t cnd_id_f)) (cnd_not_t cnd_id_f)) h3
    exact k_out (prv_e (prv_1 (or_assoc.1 g3)) (by decide))
  · have g3 := (cnd_or_f (cnd_or_f (cnd_not_f cnd_id_t) (cnd_not_f cnd_id_t)) (cnd_not_f cnd_id_t)) h3
    refine k_sc (c2) ?_
    refine k_sc (c3) ?_
    refine k_br (fun h7 => ?_) (fun h7 => ?_)
    · have g7 := (cnd_or_t (cnd_not_t cnd_dec_f) (cnd_not_t cnd_dec_f)) h7
      exact k_out (prv_e (prv_2 ⟨g3.1.1, g3.1.2, g3.2⟩ g7) (by decide))
    · have g7 := (cnd_or_f (cnd_not_f cnd_dec_t) (cnd_not_f cnd_dec_t)) h7
      refine k_sc (c4) ?_
      refine k_scg (fun h10 => c5) ?_
      refine k_br (fun h11 => ?_) (fun h11 => ?_)
      · have g11 := (cnd_or_t (cnd_not_t cnd_id_f) (cnd_not_t cnd_id_f)) h11
        exact k_out (prv_e (prv_3 ⟨g3.1.1, g3.1.2, g3.2⟩ g7 (vd_no g7 g11)) (by decide))
      · have g11 := (cnd_or_f (cnd_not_f cnd_id_t) (cnd_not_f cnd_id_t)) h11
        refine k_dc (c6 (⟨g3.1.2, g3.2⟩)) ?_
        refine k_br (fun h14 => ?_) (fun h14 => ?_)
        · have g14 := cnd_beq_t h14
          exact k_out (prv_e (prv_0s ⟨g3.1.1, g3.1.2, g3.2⟩ g7 (vd_yes g7 g11) (by omega)) (by decide))
        · have g14 := cnd_beq_f h14
          refine k_sc (c7 ((validB_q g3.1.1).1) ((validB_q g3.1.1).2)) ?_
          refine k_sc (c8 ((validB_q g3.1.1).1) ((validB_q g3.1.1).2)) ?_
          refine k_br (fun h18 => ?_) (fun h18 => ?_)
          · have g18 := cnd_beq_t h18
            exact k_out (prv_e (prv_sm ⟨g3.1.1, g3.1.2, g3.2⟩ g7 (vd_yes g7 g11) (by omega) g18) (by decide))
          · have g18 := cnd_beq_f h18
            refine k_loop (fun _ hs => hs.le (⟨.refl _, .refl _, .refl _, .refl _, .refl _, .refl _, .refl _, trivial⟩) (⟨.refl _, .refl _, .refl _, .refl _, trivial⟩)) (fun x20 => ?_)
            try (have q20 := x20.2; dsimp only at q20)
            refine k_br (fun h21 => ?_) (fun h21 => ?_)
            · have g21 := cnd_dec_t h21
              refine k_req (by omega) ?_
              refine k_sc (c9 (List.getD (sharedL s t) (Int.toNat (↑x20.1 : Int)) (0 : Int)) (sh_bd g3.1.2 _)) ?_
              refine k_br (fun h24 => ?_) (fun h24 => ?_)
              · have g24 := cnd_id_t h24
                try simp only [Int.toNat_natCast] at g24
                exact k_out (Ent.of_eq (prv_ok ⟨g3.1.1, g3.1.2, g3.2⟩ g7 (vd_yes g7 g11) (by omega) x20.2.2 (okI_xt g24)))
              · have g24 := cnd_id_f h24
                try simp only [Int.toNat_natCast] at g24
                exact k_again (⟨x20.1 + 1, by omega, first_next x20.2.2 (by omega) (okI_xf (vd_yes g7 g11) g24)⟩) (fun _ hs => hs.le (⟨.refl _, .refl _, .refl _, .refl _, .refl _, .refl _, inc_ent (by omega), trivial⟩) (⟨.refl _, .refl _, .refl _, .refl _, trivial⟩)) (by dsimp only; omega)
            · have g21 := cnd_dec_f h21
              exact k_out (prv_e (prv_z ⟨g3.1.1, g3.1.2, g3.2⟩ g7 (vd_yes g7 g11) (by omega) g18 (by omega) x20.2.2) (by decide))

end Go.Proofs.YtdaaddkipdmajaaGreatDoor

namespace Go.Proofs.YtdaaddkipdmajaaGreatDoor
open Go Go.Am Go.Sp
set_option maxRecDepth 100000

theorem proves_w (b : Bas) (R : Nat → Nat → Int) (n : Nat) (s t S T : Spend) (L E : Int)
    (c2 : n ≤ 1000 → s.nl ≤ 1000 → t.nl ≤ 1000 → s.np ≤ 1000000 → t.np ≤ 1000000 → Pure Tryz.prog gl0 39 [b.av, rcl n R, s.av, t.av] (.tup [gul S T L, .int .i64 E]))
    (c3 : n ≤ 1000 → s.nl ≤ 1000 → t.nl ≤ 1000 → s.np ≤ 1000000 → t.np ≤ 1000000 → Pure Tryz.prog gl0 40 [b.av, rcl n R, s.av, t.av] (.tup [gul S T L, .int .i64 E]))
    (hS : fewB s = true ∧ fewB t = true → (S.nl ≤ 1000 ∧ S.np ≤ 1000) ∧ (T.nl ≤ 1000 ∧ T.np ≤ 1000)) :
    Pure Tryz.prog gl0 8 [b.av, rcl n R, s.av, t.av] (.bool true) := by
  have c1 := few33_2 s t
  have c4 := fun h1 h2 h3 h4 => same33_c S T L h1 h2 h3 h4
  have f := fun h => few_nl (s := s) (t := t) h
  have p := fun h => few_pp (s := s) (t := t) h
  refine pure_sk (own := ow0) Tryz.func8 (by kernel_rfl) mixed (by kernel_rfl)
    (let y0 : List AV := [AV.agg (Bas.cells b), AV.isl 11 n fun (i j : Nat) => Zi (R i j), AV.agg (Spend.cells s), AV.agg (Spend.cells t)]; (.sc (true) 35 ([]) (AV.bool true) (.ff (.sc (true) 36 ([AV.isl 80 2 fun (r k : Nat) => atL (List.getD [Spend.cells s, Spend.cells t] (r + 0) []) k]) (AV.bool (fewB s && fewB t)) (.br (!(fewB s && fewB t) || decide ((↑n : Int) > 20)) (.out (AV.bool true) [] (AV.bool true) []) (.dc (true) 39 (y0) (AV.tup [gul S T L, Zi E]) (.dc (true) 40 (y0) (AV.tup [gul S T L, Zi E]) (.sc ((E == E) == true) 41 ([AV.agg (Spend.cells S ++ (Spend.cells T ++ [Zi L])), AV.agg (Spend.cells S ++ (Spend.cells T ++ [Zi L]))]) (AV.bool true) (.out (AV.bool (E == E || false)) [] (AV.bool true) [])))))))))
    (by kernel_rfl) ?_
  refine k_sc (awake33_c) ?_
  refine k_ff ?_
  refine k_sc (c1) ?_
  refine k_br (fun h3 => ?_) (fun h3 => ?_)
  · have g3 := (cnd_or_t (cnd_not_t (cnd_and_f cnd_id_f cnd_id_f)) cnd_dec_t) h3
    exact k_out (Ent.of_eq rfl)
  · have g3 := (cnd_or_f (cnd_not_f (cnd_and_t cnd_id_t cnd_id_t)) cnd_dec_f) h3
    refine k_dc (c2 (by omega) (by exact (f g3.1).1) (by exact (f g3.1).2) (by exact (p g3.1).1) (by exact (p g3.1).2)) ?_
    refine k_dc (c3 (by omega) (by exact (f g3.1).1) (by exact (f g3.1).2) (by exact (p g3.1).1) (by exact (p g3.1).2)) ?_
    refine k_scg (fun h7 => c4 (by exact (hS g3.1).1.1) (by exact (hS g3.1).1.2) (by exact (hS g3.1).2.1) (by exact (hS g3.1).2.2)) ?_
    exact k_out (Ent.of_eq (by simp))

theorem exposeProves_c (b : Bas) (R : Nat → Nat → Int) (n : Nat) (s t : Spend) (hw : b.gr.W) (bs : s.By) (bt : t.By) (fs : ∀ k, k < s.np → byB (s.pf k) 32) (ft : ∀ k, k < t.np → byB (t.pf k) 32) :
    Pure Tryz.prog gl0 8 [b.av, rcl n R, s.av, t.av] (.bool true) :=
  proves_w b R n s t (prS b R n s t) (prT b R n s t) (prL b R n s t) (prvE b R n s t) (fun hn h h' p p' => prove_c b R n s t hn hw h h' bs bt p p' fs ft)
    (fun hn h h' p p' => rprove_c b R n s t hn hw h h' bs bt p p' fs ft) (fun h => ⟨prS_1 h, prT_1 h⟩)

end Go.Proofs.YtdaaddkipdmajaaGreatDoor

namespace Go.Sp
open Go Go.Am

def u8s (n : Nat) : List CT := List.replicate n (.int .u8)
def spendT : List CT := [.int .i64, .int .i64, .int .i64, .int .i64, .int .i64] ++ u8s 32 ++ [.int .i64, .int .i64, .int .i64, .int .i64, .int .i64, .int .i64] ++ u8s 32 ++ [.int .i64, .int .i64, .sl [.int .i64, .int .i64, .int .i64], .int .i64, .sl (u8s 32)]

def spendOf (g : Nat → AV) : Spend :=
  { bank := intOfAV (g 0), epoch := intOfAV (g 1), denom := intOfAV (g 2), depth := intOfAV (g 3), a := intOfAV (g 4), root := fun j => intOfAV (g (5 + j)),
    z := intOfAV (g 37), sa := intOfAV (g 38), sb := intOfAV (g 39), r := intOfAV (g 40), level := intOfAV (g 41), index := intOfAV (g 42), payee := fun j => intOfAV (g (43 + j)),
    time := intOfAV (g 75), number := intOfAV (g 76), nl := islN (g 77), lf := fun i j => intOfAV (islF (g 77) i j), pidx := intOfAV (g 78), np := islN (g 79), pf := fun i j => intOfAV (islF (g 79) i j) }

end Go.Sp

namespace Go.Sp
open Go Go.Am

def i64s (n : Nat) : List CT := List.replicate n (.int .i64)
end Go.Sp

namespace Go.Sp
open Go Go.Am
def basOf (g : Nat → AV) : Bas := ⟨⟨intOfAV (g 0), intOfAV (g 1), intOfAV (g 2)⟩, intOfAV (g 3), intOfAV (g 4), intOfAV (g 5)⟩
theorem cell_i64 {a : AV} (h : CellOk (.int .i64) a) : -9223372036854775808 ≤ intOfAV a ∧ intOfAV a ≤ 9223372036854775807 := by
  obtain ⟨h1, h2⟩ := (Lit.wf_int_iff _ _).1 h.int_inv
  exact ⟨Int.le_trans (by decide) h1, Int.le_trans h2 (by decide)⟩
theorem cell_u8 {a : AV} (h : CellOk (.int .u8) a) : 0 ≤ intOfAV a ∧ intOfAV a < 256 := by
  obtain ⟨h1, h2⟩ := (Lit.wf_int_iff _ _).1 h.int_inv
  exact ⟨Int.le_trans (by decide) h1, Int.lt_of_le_of_lt h2 (by decide)⟩
theorem u8_by {ts : List CT} {g : Nat → AV} {k n : Nat} (h : ∀ (j : Nat) c, ts[j]? = some c → CellOk c (g j)) (ht : ∀ j, j < n → ts[k + j]? = some (.int .u8)) : byB (fun j => intOfAV (g (k + j))) n := fun i hi => cell_u8 (h (k + i) _ (ht i hi))
theorem basOf_w {g : Nat → AV} (h : ∀ (j : Nat) c, (i64s 6)[j]? = some c → CellOk c (g j)) : (basOf g).gr.W :=
  ⟨(cell_i64 (h 0 _ rfl)).2, (cell_i64 (h 1 _ rfl)).2⟩
def spA : List CT := [.int .i64, .int .i64, .int .i64, .int .i64, .int .i64]
def spB : List CT := [.int .i64, .int .i64, .int .i64, .int .i64, .int .i64, .int .i64]
def spC : List CT := [.int .i64, .int .i64, .sl [.int .i64, .int .i64, .int .i64], .int .i64, .sl (u8s 32)]
theorem spendT_root : ∀ j, j < 32 → spendT[5 + j]? = some (.int .u8) := fun j hj => by
  show (((spA ++ u8s 32) ++ spB) ++ u8s 32 ++ spC)[5 + j]? = _
  rw [List.append_assoc, List.append_assoc, List.getElem?_append_left (by simp only [spA, u8s, List.length_append, List.length_replicate, List.length_cons, List.length_nil]; omega),
    List.getElem?_append_right (by show 5 ≤ _; omega)]
  unfold u8s
  rw [List.getElem?_replicate, if_pos (by show 5 + j - 5 < 32; omega)]
theorem spendT_payee : ∀ j, j < 32 → spendT[43 + j]? = some (.int .u8) := fun j hj => by
  show (((spA ++ u8s 32) ++ spB) ++ u8s 32 ++ spC)[43 + j]? = _
  have e : ((spA ++ u8s 32) ++ spB).length = 43 := by simp [spA, spB, u8s]
  rw [List.append_assoc, List.getElem?_append_right (by omega), e, List.getElem?_append_left (by simp only [u8s, List.length_replicate]; omega)]
  unfold u8s
  rw [List.getElem?_replicate, if_pos (by omega)]
theorem spend_by {g : Nat → AV} (h : ∀ (j : Nat) c, spendT[j]? = some c → CellOk c (g j)) : (spendOf g).By := ⟨u8_by (k := 5) h spendT_root, u8_by (k := 43) h spendT_payee⟩
end Go.Sp

namespace Go.Sp
open Go Go.Am
theorem u8s_i {k : Nat} (h : k < 32) : (u8s 32)[k]? = some (.int .u8) := by
  unfold u8s
  rw [List.getElem?_replicate, if_pos h]
theorem spend_pf {g : Nat → AV} (h : ∀ (j : Nat) c, spendT[j]? = some c → CellOk c (g j)) : ∀ k, k < (spendOf g).np → byB ((spendOf g).pf k) 32 :=
  fun j hj k hk => cell_u8 ((h 79 (.sl (u8s 32)) rfl).sl_inv.2 j k (.int .u8) hj (u8s_i hk))
end Go.Sp

namespace Go.Am
open Go

theorem laid_at {P : Program} {w : World} : ∀ {laid : List (String × DataW Unit)} {ps : List MemPlace}, DataW.LaidVars P w laid ps → ∀ {i : Nat} {n : String} {d : DataW Unit}, laid[i]? = some (n, d) →
    ∃ g t cs fuel p, P.globalNamed n = some g ∧ (P.globals[g]?).map (·.type) = some t ∧ w.var? P n = some cs ∧ DataW.trod (fun _ => ()) P w 0 (fun _ => true) false fuel t cs.toList = some (d, p)
  | [], _, _, i, n, d, h => by simp at h
  | (n', d') :: r, ps, ⟨g, t, cs, fuel, p, q, h1, h2, h3, h4, _, _⟩, 0, n, d, h => by
    simp only [List.getElem?_cons_zero, Option.some.injEq, Prod.mk.injEq] at h
    obtain ⟨rfl, rfl⟩ := h
    exact ⟨g, t, cs, fuel, p, h1, h2, h3, h4⟩
  | (n', d') :: r, ps, ⟨g, t, cs, fuel, p, q, h1, h2, h3, h4, h5, _⟩, i + 1, n, d, h => laid_at h5 (by simpa using h)

def arrOk (P : Program) (g n : Nat) (k : IntKind) : Bool :=
  match (P.globals[g]?).map (·.type) with
  | some t =>
    match P.underlying t with
    | some (.array m e) =>
      match P.underlying e with
      | some (.int k') => Nat.beq m n && Nat.beq (P.cellsOf e) 1 && decide (k' = k)
      | _ => false
    | _ => false
  | none => false
theorem arrOk_inv {P : Program} {g n : Nat} {k : IntKind} (h : arrOk P g n k = true) : ∃ t e, (P.globals[g]?).map (·.type) = some t ∧ P.underlying t = some (.array n e) ∧ P.underlying e = some (.int k) ∧ P.cellsOf e = 1 := by
  unfold arrOk at h
  split at h
  · rename_i t ht
    split at h
    · rename_i m e hu
      split at h
      · rename_i k' he
        simp only [Bool.and_eq_true, decide_eq_true_eq, Nat.beq_eq] at h
        obtain ⟨⟨rfl, h2⟩, rfl⟩ := h
        exact ⟨t, e, ht, hu, he, h2⟩
      · cases h
    · cases h
  · cases h

theorem glob_ints {P : Program} {w : World} {β : Book} {laid : List (String × DataW Unit)} (h : laidMetH P laid w) (hp : (laid.all fun x => x.2.handleName?.isNone) = true) (i : Nat) (name : String) {g n : Nat}
    {k : IntKind} {F : Nat → Int} (hl : laid[i]? = some (name, .agg ((List.range n).map fun j => .lit (.int k (F j))))) (hg : P.globalNamed name = some g) (ho : arrOk P g n k = true) (hn : 0 < n) (hb : β.free g) : Rel β w (.ipt n fun j => .int k (F j)) (.pointer (some ⟨g, 0, none⟩)) := by
  obtain ⟨t, e, ht, hu, he, hc⟩ := arrOk_inv ho
  rw [MakeChecks.laidMetH_plain _ _ _ hp] at h
  obtain ⟨ps, hv, _, _⟩ := h
  obtain ⟨g', t', cs, fuel, p, h1, h2, h3, h4⟩ := laid_at hv hl
  obtain rfl := Option.some.inj (hg.symm.trans h1)
  obtain rfl := Option.some.inj (ht.symm.trans h2)
  obtain ⟨xs, m, rfl, hx, hlen, hxl, hel⟩ := DataW.trod_array hu h4
  simp only [Prod.mk.injEq, DataW.agg.injEq] at hx
  obtain ⟨hx, _⟩ := hx
  have cell : ∀ j, j < n → cs[j]? = some (.int k (F j)) := fun j hj => by
    have hj' := hel j hj
    rw [hc, Nat.mul_one, List.getElem?_eq_getElem (by omega : j < xs.length)] at hj'
    obtain ⟨v, e1, e2, _⟩ := DataW.trod_int he hj'
    have e3 : (xs.map (·.1))[j]? = some (.lit (.int k v)) := by rw [List.getElem?_map, List.getElem?_eq_getElem (by omega : j < xs.length), e2]; rfl
    rw [← hx] at e3
    simp only [List.getElem?_map, List.getElem?_range hj, Option.map_some, Option.some.injEq, DataW.lit.injEq, Lit.int.injEq, true_and] at e3
    subst e3
    have e4 : (List.take 1 (List.drop j cs.toList))[0]? = some (.int k (F j)) := by rw [e1]; rfl
    rw [List.getElem?_take_of_lt (by decide), List.getElem?_drop, Nat.add_zero] at e4
    simpa using e4
  refine .ipt (fun j => .int k (F j)) hn hb (fun j hj => ?_) (fun _ _ => rfl) (fun _ _ => .int) (fun _ _ => .int)
  rw [World.var?_cell hg h3]
  simpa using cell j hj
end Go.Am
