/- Part of the proof: FV12, FV13, Vfy, FV14, FV15, Glt, FV16, FV17, FV18, Clm, Prv, FW1, Acc, Prv2, Prv3, FW2, FW3, SpOpen, SpOpenP, Args, Args3, EnGlob. -/
import Derived.Test.YtdaaddkipdmajaaGreatDoorM7
import Derived.Test.YtdaaddkipdmajaaGreatDoorProg
import Derived.Test.YtdaaddkipdmajaaGreatDoorM3
import Derived.Test.YtdaaddkipdmajaaGreatDoorM5
import Derived.Test.YtdaaddkipdmajaaGreatDoorM4
import Derived.DataShut
import Derived.OpenShut
import Derived.FnData
import Derived.MakeChecks
namespace Go.Proofs.YtdaaddkipdmajaaGreatDoor
open Go Go.Am Go.Sp
set_option maxRecDepth 100000

theorem pel1_c (G : Grp) (x : Int) (h : G.Ok) (hw : G.W) : Pure Tryz.prog gl0 265 [.int .i64 x, .ipt 3 (atL G.cells)] (.bool (!elemB G x)) := by
  have hg := validG_iff.2 h
  refine pure_sk (own := ow0) Tryz.func265 (by kernel_rfl) mixed (by kernel_rfl)
    (.sc (true) 130 ([AV.agg [Zi G.1, Zi G.2, Zi G.3], Zi x]) (AV.bool (validG G && elemB G x)) (.out (AV.bool !(validG G && elemB G x)) [] (AV.bool !elemB G x) []))
    (by kernel_rfl) ?_
  refine k_sc ((contains_c G) (x) (by assumption)) ?_
  exact k_out (Ent.of_eq (congrArg _ (by rw [hg, Bool.true_and])))

theorem pex1_c (G : Grp) (x : Int) : Pure Tryz.prog gl0 266 [.int .i64 x, .ipt 3 (atL G.cells)] (.bool (decide (x < 0) || decide (x ≥ G.q))) := by
  refine pure_sk (own := ow0) Tryz.func266 (by kernel_rfl) mixed (by kernel_rfl)
    (.out (AV.bool (decide (x < (0 : Int)) || decide (x ≥ G.2))) [] (AV.bool (decide (x < (0 : Int)) || decide (x ≥ Grp.q G))) [])
    (by kernel_rfl) ?_
  exact k_out (Ent.refl _)

theorem pel_c (G : Grp) (n : Nat) (f : Nat → Int) (hn : n ≤ 1000) (h : G.Ok) (hw : G.W) (hf : ∀ i, i < n → elemB G (f i) = true) : Pure Tryz.prog gl0 237 [G.av, .isl 1 n fun i _ => .int .i64 (f i)] (.bool true) := by
  have c1 := conI_w 265 3 (atL G.cells) f n (fun i => !elemB G (f i)) hn (fun i _ => pel1_c G (f i) h hw)
  have e := fst_no (p := fun i => !elemB G (f i)) (n := n) (fun i hi => by rw [hf i hi]; rfl)
  refine pure_sk (own := ow0) Tryz.func237 (by kernel_rfl) mixed (by kernel_rfl)
    (.sc (true) 197 ([AV.isl (1) n fun (i x : Nat) => Zi (f i), AV.fn (Fn.func (265 : Nat)) [] [AV.ipt (3) fun (k : Nat) => atL [Zi G.1, Zi G.2, Zi G.3] k]]) (AV.bool (decide (firstI (fun (i : Nat) => !elemB G (f i)) n (0 : Nat) ≥ (0 : Int)))) (.out (AV.bool !decide (firstI (fun (i : Nat) => !elemB G (f i)) n (0) ≥ (0 : Int))) [] (AV.bool true) []))
    (by kernel_rfl) ?_
  refine k_sc (c1) ?_
  exact k_out (Ent.of_eq (congrArg _ (by rw [e]; rfl)))

theorem pex_c (G : Grp) (a c : Int) : Pure Tryz.prog gl0 238 [G.av, .isl 1 2 fun i _ => .int .i64 (sel2 a c i)] (.bool (scaB G a && scaB G c)) := by
  have c1 := conI_w 266 3 (atL G.cells) (sel2 a c) 2 (fun i => decide (sel2 a c i < 0) || decide (sel2 a c i ≥ G.q)) (by decide) (fun i _ => pex1_c G (sel2 a c i))
  have e := fst_2 (p := fun i => decide (sel2 a c i < 0) || decide (sel2 a c i ≥ G.q))
  refine pure_sk (own := ow0) Tryz.func238 (by kernel_rfl) mixed (by kernel_rfl)
    (.sc (true) 197 ([AV.isl (1) (2) fun (i x : Nat) => Zi (sel2 a c i), AV.fn (Fn.func (266 : Nat)) [] [AV.ipt (3) fun (k : Nat) => atL [Zi G.1, Zi G.2, Zi G.3] k]]) (AV.bool (decide (firstI (fun (i : Nat) => decide (sel2 a c i < (0 : Int)) || decide (sel2 a c i ≥ Grp.q G)) (2 : Nat) (0 : Nat) ≥ (0 : Int)))) (.out (AV.bool !decide (firstI (fun (i : Nat) => decide (sel2 a c i < (0 : Int)) || decide (sel2 a c i ≥ G.2)) (2) (0) ≥ (0 : Int))) [] (AV.bool (scaB G a && scaB G c)) []))
    (by kernel_rfl) ?_
  refine k_sc (c1) ?_
  exact k_out (Ent.of_eq (congrArg _ (by rw [e, sca_n, sca_n, ← Bool.not_and, Bool.not_not]; rfl)))

theorem powers_c (G : Grp) (f e : Nat → Int) (h : G.Ok) (hw : G.W) (hf : ∀ i, i < 2 → elemB G (f i) = true) (he : ∀ i, i < 2 → 0 ≤ e i ∧ e i < G.q) : Pure Tryz.prog gl0 239 [G.av, .isl 1 2 fun i _ => .int .i64 (f i), .isl 1 2 fun i _ => .int .i64 (e i)] (.tup [.int .i64 (prdF G f e 2), .int .i64 0]) := by
  refine pure_sk (own := ow0) Tryz.func239 (by kernel_rfl) mixed (by kernel_rfl)
    (.loop ({ x : Nat // x ≤ (2 : Nat) }) (fun (x : { x : Nat // x ≤ (2 : Nat) }) => mkSt [2, 3, 13, 14, 8, 15] [AV.isl (1) (2) fun (i x : Nat) => Zi (e i), AV.own (0) (3) (0) (0) (3), AV.isl (1) (2) fun (i x : Nat) => Zi (f i), Zi (↑(2) : Int), Zi (prdF G f e (x.1)), Zi (↑(x.1) : Int)] [some { es := 3, n := 1, mu := true, f := Rep.lst [[Zi (Grp.p G), Zi (Grp.q G), Zi (Grp.g G)]] }]) (fun (x : { x : Nat // x ≤ (2 : Nat) }) => (2 : Nat) - x.1) (⟨(0 : Nat), Nat.zero_le (2 : Nat)⟩) ([2, 3, 13, 14, 8, 15]) ([0]) ([AV.isl (1) (2) fun (i x : Nat) => Zi (e i), AV.own (0) (3) (0) (0) (3), AV.isl (1) (2) fun (i x : Nat) => Zi (f i), Zi (↑(2) : Int), Zi 1, Zi 0]) ([some { es := 3, n := 1, mu := true, f := Rep.lst [[Zi (Grp.p G), Zi (Grp.q G), Zi (Grp.g G)]] }]) (fun x0 => (.br (decide ((↑x0.1 : Int) < (↑(2) : Int))) (.req ((0 : Int) ≤ (↑x0.1 : Int) ∧ (↑x0.1 : Int) < (↑(2) : Int)) (.req ((0 : Int) ≤ (↑x0.1 : Int) ∧ (↑x0.1 : Int) < (↑(2) : Int)) (.sc (true) 48 ([AV.agg [Zi G.1, Zi G.2, Zi G.3], Zi (f (Int.toNat (↑x0.1 : Int))), Zi (e (Int.toNat (↑x0.1 : Int)))]) (AV.tup [Zi (f (Int.toNat (↑x0.1 : Int)) ^ Int.toNat (e (Int.toNat (↑x0.1 : Int))) % Grp.p G), Zi 0]) (.ff (.sc (true) 49 ([AV.agg [Zi G.1, Zi G.2, Zi G.3], Zi (prdF G f e x0.1), Zi (f (Int.toNat (↑x0.1 : Int)) ^ Int.toNat (e (Int.toNat (↑x0.1 : Int))) % G.1)]) (AV.tup [Zi (prdF G f e x0.1 * (f (Int.toNat (↑x0.1 : Int)) ^ Int.toNat (e (Int.toNat (↑x0.1 : Int))) % G.1) % Grp.p G), Zi 0]) (.ff (.again (Again (0) (fun (x : { x : Nat // x ≤ (2 : Nat) }) => mkSt [2, 3, 13, 14, 8, 15] [AV.isl (1) (2) fun (i x : Nat) => Zi (e i), AV.own (0) (3) (0) (0) (3), AV.isl (1) (2) fun (i x : Nat) => Zi (f i), Zi (↑(2) : Int), Zi (prdF G f e (x.1)), Zi (↑(x.1) : Int)] [some { es := 3, n := 1, mu := true, f := Rep.lst [[Zi (Grp.p G), Zi (Grp.q G), Zi (Grp.g G)]] }]) (fun (x : { x : Nat // x ≤ (2 : Nat) }) => (2 : Nat) - x.1) x0) ([2, 3, 13, 14, 8, 15]) ([0]) ([AV.isl (1) (2) fun (i x : Nat) => Zi (e i), AV.own (0) (3) (0) (0) (3), AV.isl (1) (2) fun (i x : Nat) => Zi (f i), Zi (↑(2) : Int), Zi (prdF G f e x0.1 * (f (Int.toNat (↑x0.1 : Int)) ^ Int.toNat (e (Int.toNat (↑x0.1 : Int))) % G.1) % G.1), Zi (IntKind.wrap IntKind.i64 ((↑x0.1 : Int) + (1 : Int)))]) ([some { es := 3, n := 1, mu := true, f := Rep.lst [[Zi (Grp.p G), Zi (Grp.q G), Zi (Grp.g G)]] }])))))))) (.out (AV.tup [Zi (prdF G f e x0.1), Zi 0]) [] (AV.tup [Zi (prdF G f e (2 : Nat)), Zi 0]) []))))
    (by kernel_rfl) ?_
  refine k_loop (fun _ hs => hs.le (⟨.refl _, .refl _, .refl _, .refl _, .refl _, .refl _, trivial⟩) (⟨.refl _, trivial⟩)) (fun x0 => ?_)
  try (have q0 := x0.2; dsimp only at q0)
  refine k_br (fun h1 => ?_) (fun h1 => ?_)
  · have g1 := cnd_dec_t h1
    refine k_req (by omega) ?_
    refine k_req (by omega) ?_
    refine k_sc ((gpow_c G) (f (Int.toNat (↑x0.1 : Int))) (e (Int.toNat (↑x0.1 : Int))) (by first | assumption | exact hf _ (by first | omega | (simp only [Int.toNat_natCast]; omega)) | exact he _ (by first | omega | (simp only [Int.toNat_natCast]; omega)) | exact elem_prd h hf _ (by omega) | exact elem_pow h (hf _ (by first | omega | (simp only [Int.toNat_natCast]; omega))) _) (by first | assumption | exact hf _ (by first | omega | (simp only [Int.toNat_natCast]; omega)) | exact he _ (by first | omega | (simp only [Int.toNat_natCast]; omega)) | exact elem_prd h hf _ (by omega) | exact elem_pow h (hf _ (by first | omega | (simp only [Int.toNat_natCast]; omega))) _) (by first | assumption | exact hf _ (by omega) | exact he _ (by first | omega | (simp only [Int.toNat_natCast]; omega)) | exact elem_prd h hf _ (by omega) | exact elem_pow h (hf _ (by first | omega | (simp only [Int.toNat_natCast]; omega))) _) (by first | assumption | exact hf _ (by first | omega | (simp only [Int.toNat_natCast]; omega)) | exact he _ (by omega) | exact elem_prd h hf _ (by omega) | exact elem_pow h (hf _ (by first | omega | (simp only [Int.toNat_natCast]; omega))) _)) ?_
    refine k_ff ?_
    refine k_sc ((gmul_c G) (prdF G f e x0.1) (f (Int.toNat (↑x0.1 : Int)) ^ Int.toNat (e (Int.toNat (↑x0.1 : Int))) % G.1) (by first | assumption | exact hf _ (by first | omega | (simp only [Int.toNat_natCast]; omega)) | exact he _ (by first | omega | (simp only [Int.toNat_natCast]; omega)) | exact elem_prd h hf _ (by omega) | exact elem_pow h (hf _ (by first | omega | (simp only [Int.toNat_natCast]; omega))) _) (by first | assumption | exact hf _ (by first | omega | (simp only [Int.toNat_natCast]; omega)) | exact he _ (by first | omega | (simp only [Int.toNat_natCast]; omega)) | exact elem_prd h hf _ (by omega) | exact elem_pow h (hf _ (by first | omega | (simp only [Int.toNat_natCast]; omega))) _) (by first | assumption | exact hf _ (by first | omega | (simp only [Int.toNat_natCast]; omega)) | exact he _ (by first | omega | (simp only [Int.toNat_natCast]; omega)) | exact elem_prd h hf _ (by omega) | exact elem_pow h (hf _ (by first | omega | (simp only [Int.toNat_natCast]; omega))) _) (by first | assumption | exact hf _ (by first | omega | (simp only [Int.toNat_natCast]; omega)) | exact he _ (by first | omega | (simp only [Int.toNat_natCast]; omega)) | exact elem_prd h hf _ (by omega) | exact elem_pow h (hf _ (by omega)) _)) ?_
    refine k_ff ?_
    exact k_again (⟨x0.1 + 1, by omega⟩) (fun _ hs => hs.le (⟨.refl _, .refl _, .refl _, .refl _, .refl _, inc_ent (by omega), trivial⟩) (⟨.refl _, trivial⟩)) (by dsimp only; omega)
  · have g1 := cnd_dec_f h1
    exact k_out (by first | (exfalso; omega) | exact Ent.of_eq (by rw [show x0.1 = 2 by omega]))

theorem product2_c (b : Bas) (r1 r2 : Int) (hw : b.gr.W) (hv : validB b = true) : Pure Tryz.prog gl0 196 [b.gr.av, .isl 1 2 fun i _ => .int .i64 (sel2 b.g1 b.g2 i), .isl 1 2 fun i _ => .int .i64 (sel2 r1 r2 i)] (.tup [.int .i64 (pr2V b r1 r2), .int .i64 (pr2E b r1 r2)]) := by
  have h := validB_iff.1 hv
  have hf : ∀ i, i < 2 → elemB b.gr (sel2 b.g1 b.g2 i) = true := fun i hi => match i, hi with | 0, _ => h.e1 | 1, _ => h.e2
  have hg := validG_iff.2 h.G
  have c1 := pel_c b.gr 2 (sel2 b.g1 b.g2) (by decide) h.G hw hf
  have c2 := pex_c b.gr r1 r2
  have c3 := fun he => powers_c b.gr (sel2 b.g1 b.g2) (sel2 r1 r2) h.G hw hf he
  refine pure_sk (own := ow0) Tryz.func196 (by kernel_rfl) mixed (by kernel_rfl)
    (.sc (true) 129 ([AV.agg [Zi (Bas.gr b).1, Zi (Bas.gr b).2, Zi (Bas.gr b).3]]) (AV.bool (validG (Bas.gr b))) (.br (!validG b.1 || false) (.out (AV.tup [Zi 0, Zi 1]) [] (AV.tup [Zi (pr2V b r1 r2), Zi (pr2E b r1 r2)]) []) (.ff (.sc (true) 237 ([AV.agg [Zi (Bas.gr b).1, Zi (Bas.gr b).2, Zi (Bas.gr b).3], AV.isl (1) (2) fun (i x : Nat) => Zi (sel2 b.2 b.3 i)]) (AV.bool true) (.sc (true) 238 ([AV.agg [Zi (Bas.gr b).1, Zi (Bas.gr b).2, Zi (Bas.gr b).3], AV.isl (1) (2) fun (i x : Nat) => Zi (sel2 r1 r2 i)]) (AV.bool (scaB (Bas.gr b) r1 && scaB (Bas.gr b) r2)) (.br (!(scaB b.1 r1 && scaB b.1 r2)) (.out (AV.tup [Zi 0, Zi 2]) [] (AV.tup [Zi (pr2V b r1 r2), Zi (pr2E b r1 r2)]) []) (.sc (true) 239 ([AV.agg [Zi (Bas.gr b).1, Zi (Bas.gr b).2, Zi (Bas.gr b).3], AV.isl (1) (2) fun (i x : Nat) => Zi (sel2 b.2 b.3 i), AV.isl (1) (2) fun (i x : Nat) => Zi (sel2 r1 r2 i)]) (AV.tup [Zi (prdF (Bas.gr b) (sel2 (Bas.g1 b) (Bas.g2 b)) (sel2 r1 r2) (2 : Nat)), Zi 0]) (.out (AV.tup [Zi (prdF b.1 (sel2 b.2 b.3) (sel2 r1 r2) (2)), Zi 0]) [] (AV.tup [Zi (pr2V b r1 r2), Zi (pr2E b r1 r2)]) []))))))))
    (by kernel_rfl) ?_
  refine k_sc ((gvalid_c (Bas.gr b)) (by assumption)) ?_
  refine k_br (fun h1 => ?_) (fun h1 => ?_)
  · have g1 := (cnd_or_t (cnd_not_t cnd_id_f) cnd_id_t) h1
    exact k_out (by exfalso; simp [hg] at g1)
  · have g1 := (cnd_or_f (cnd_not_f cnd_id_t) cnd_id_f) h1
    refine k_ff ?_
    refine k_sc (c1) ?_
    refine k_sc (c2) ?_
    refine k_br (fun h6 => ?_) (fun h6 => ?_)
    · have g6 := (cnd_not_t (cnd_and_f cnd_id_f cnd_id_f)) h6
      exact k_out (Ent.of_eq (by rw [(pr2_no g6).1, (pr2_no g6).2]))
    · have g6 := (cnd_not_f (cnd_and_t cnd_id_t cnd_id_t)) h6
      refine k_sc (c3 (sca_sel g6)) ?_
      exact k_out (Ent.of_eq (by rw [(pr2_ok g6).1, (pr2_ok g6).2, prd_2 h.G]; rfl))

theorem check2_c (b : Bas) (y r1 r2 : Int) (hw : b.gr.W) (hv : validB b = true) : Pure Tryz.prog gl0 151 [b.gr.av, .int .i64 y, .isl 1 2 fun i _ => .int .i64 (sel2 b.g1 b.g2 i), .isl 1 2 fun i _ => .int .i64 (sel2 r1 r2 i)] (.bool (chk2 b y r1 r2)) := by
  have c1 := product2_c b r1 r2 hw hv
  refine pure_sk (own := ow0) Tryz.func151 (by kernel_rfl) mixed (by kernel_rfl)
    (.sc (true) 196 ([AV.agg [Zi (Bas.gr b).1, Zi (Bas.gr b).2, Zi (Bas.gr b).3], AV.isl (1) (2) fun (i x : Nat) => Zi (sel2 b.2 b.3 i), AV.isl (1) (2) fun (i x : Nat) => Zi (sel2 r1 r2 i)]) (AV.tup [Zi (pr2V b r1 r2), Zi (pr2E b r1 r2)]) (.out (AV.bool (pr2E b r1 r2 == (0 : Int) && pr2V b r1 r2 == y)) [] (AV.bool (chk2 b y r1 r2)) []))
    (by kernel_rfl) ?_
  refine k_sc (c1) ?_
  exact k_out (Ent.of_eq (congrArg _ chk2_eq))

theorem check2_l (b : Bas) (y r1 r2 : Int) (hw : b.gr.W) (hv : validB b = true) : Pure Tryz.prog gl0 151 [b.gr.av, .int .i64 y, .isl 1 2 fun r k => atL (List.getD [[.int .i64 b.g1], [.int .i64 b.g2]] r []) k, .isl 1 2 fun r k => atL (List.getD [[.int .i64 r1], [.int .i64 r2]] r []) k] (.bool (chk2 b y r1 r2)) :=
  (check2_c b y r1 r2 hw hv).via ⟨Ent.refl _, Ent.refl _, sel_isl, sel_isl, trivial⟩

end Go.Proofs.YtdaaddkipdmajaaGreatDoor

namespace Go.Proofs.YtdaaddkipdmajaaGreatDoor
open Go Go.Am Go.Sp
set_option maxRecDepth 100000

theorem sright_c (b : Bas) (a k x r1 r2 : Int) (hw : b.gr.W) (hv : validB b = true) (ha : elemB b.gr a = true) (hk : 0 ≤ k ∧ k < b.gr.q) : Pure Tryz.prog gl0 71 [b.av, .int .i64 a, .int .i64 k, .agg [.int .i64 x, .int .i64 r1, .int .i64 r2]] (.bool (leafB b a k x r1 r2)) := by
  have h := validB_iff.1 hv
  have hg := validG_iff.2 h.G
  have c1 := contains_c b.gr x hw
  have c2 := gpow_c b.gr a k h.G hw ha hk
  have c3 := fun hx => gmul_c b.gr (a ^ k.toNat % b.gr.p) x h.G hw (elem_pow h.G ha _) hx
  have c4 := check2_l b (a ^ k.toNat % b.gr.p * x % b.gr.p) r1 r2 hw hv
  rw [hg, Bool.true_and] at c1
  refine pure_sk (own := ow0) Tryz.func71 (by kernel_rfl) mixed (by kernel_rfl)
    (.sc (true) 130 ([AV.agg [Zi (Bas.gr b).1, Zi (Bas.gr b).2, Zi (Bas.gr b).3], Zi x]) (AV.bool (elemB (Bas.gr b) x)) (.br (!elemB b.1 x) (.out (AV.bool false) [] (AV.bool (leafB b a k x r1 r2)) []) (.sc (true) 48 ([AV.agg [Zi (Bas.gr b).1, Zi (Bas.gr b).2, Zi (Bas.gr b).3], Zi a, Zi k]) (AV.tup [Zi (a ^ Int.toNat k % Grp.p (Bas.gr b)), Zi 0]) (.ff (.sc (true) 49 ([AV.agg [Zi (Bas.gr b).1, Zi (Bas.gr b).2, Zi (Bas.gr b).3], Zi (a ^ Int.toNat k % (Bas.gr b).1), Zi x]) (AV.tup [Zi (a ^ Int.toNat k % Grp.p (Bas.gr b) * x % Grp.p (Bas.gr b)), Zi 0]) (.sc (true) 151 ([AV.agg [Zi (Bas.gr b).1, Zi (Bas.gr b).2, Zi (Bas.gr b).3], Zi (a ^ Int.toNat k % (Bas.gr b).1 * x % (Bas.gr b).1), AV.isl (1) (2) fun (r k : Nat) => atL (List.getD [[Zi b.2], [Zi b.3]] (r + 0) []) k, AV.isl (1) (2) fun (r k : Nat) => atL (List.getD [[Zi r1], [Zi r2]] (r + 0) []) k]) (AV.bool (chk2 b (a ^ Int.toNat k % Grp.p (Bas.gr b) * x % Grp.p (Bas.gr b)) r1 r2)) (.out (AV.bool (chk2 b (a ^ Int.toNat k % (Bas.gr b).1 * x % (Bas.gr b).1) r1 r2)) [] (AV.bool (leafB b a k x r1 r2)) [])))))))
    (by kernel_rfl) ?_
  refine k_sc (c1) ?_
  refine k_br (fun h1 => ?_) (fun h1 => ?_)
  · have g1 := (cnd_not_t cnd_id_f) h1
    exact k_out (Ent.of_eq (congrArg _ (by unfold leafB; rw [g1]; rfl)))
  · have g1 := (cnd_not_f cnd_id_t) h1
    refine k_sc (c2) ?_
    refine k_ff ?_
    refine k_sc (c3 (g1)) ?_
    refine k_sc (c4) ?_
    exact k_out (Ent.of_eq (congrArg _ (by unfold leafB; rw [g1]; rfl)))

end Go.Proofs.YtdaaddkipdmajaaGreatDoor

namespace Go.Sp
open Go Go.Am
def lbF (s : Spend) (i : Nat) : Int := s.lf i 0
def newB (s : Spend) (i : Nat) : Bool := !decide (lbF s i ∈ (List.range i).map (lbF s))
def okL (b : Bas) (s : Spend) (i : Nat) : Bool := leafB b s.a (chS b s) (s.lf i 0) (s.lf i 1) (s.lf i 2) && newB s i
def dpN (s : Spend) : Nat := (s.depth - s.level).toNat
def topF (s : Spend) : Nat → Int := treF (fun i => leafF (lbF s i)) (dpN s) 0
/-- A spend that may be looked at. -/
def hdB (b : Bas) (r : Rcd) (s : Spend) : Bool := coinV b r s.coin && nodeB s.depth s.level s.index && ctxB s.time s.number && Nat.beq s.nl (2 ^ dpN s) && s.pidx == s.index
def vfy (b : Bas) (r : Rcd) (s : Spend) : Bool := hdB b r s && allI (okL b s) s.nl && ((s.np : Int) == s.level && hEq (folF (topF s) s.pidx s.pf s.np) s.root)
theorem map_ent {os : List (Option Ob)} {n : Nat} {f : Nat → Int} : Ent os (.isl 1 n fun i _ => .int .i64 (f i)) (il .i64 ((List.range n).map f)) := by
  show Ent os _ (.isl 1 ((List.range n).map f).length _)
  rw [show ((List.range n).map f).length = n by simp]
  exact Ent.isl fun i j hi _ => congrArg (AV.int .i64) (getD_map hi).symm
theorem sz_w {s : Spend} (h : nodeB s.depth s.level s.index = true) : IntKind.wrap .i64 (1 * 2 ^ min (Int.toNat (IntKind.wrap .i64 (s.depth - s.level))) 64) = ((2 ^ dpN s : Nat) : Int) ∧ IntKind.wrap .i64 (s.depth - s.level) = s.depth - s.level ∧ dpN s ≤ 5 := by
  have k := node_t h
  have e : IntKind.wrap .i64 (s.depth - s.level) = s.depth - s.level := wI (by omega) (by omega)
  refine ⟨?_, e, by unfold dpN; omega⟩
  rw [e]
  exact shw (x := dpN s) (by unfold dpN; omega)
theorem cv_ok {b : Bas} {r : Rcd} {c : Coin} (h : coinV b r c = true) : validB b = true ∧ elemB b.gr c.a = true := by
  unfold coinV rcvB keyB verR at h
  simp only [Bool.and_eq_true] at h
  exact ⟨h.1.1.1.1.1.1.1.1.1.1.1, msg_el h.2.1.1.1.2⟩
structure HdOk (b : Bas) (r : Rcd) (s : Spend) : Prop where
  hd : hdB b r s = true
  v : validB b = true
  a : elemB b.gr s.a = true
  n : nodeB s.depth s.level s.index = true
  l : s.nl = 2 ^ dpN s
  d : dpN s ≤ 5
  lv : 0 ≤ s.level ∧ s.level ≤ 5
  ix : 0 ≤ s.pidx ∧ s.pidx < 2 ^ s.level.toNat
  n32 : s.nl ≤ 32
  lb : lvB s.nl = true
  q0 : 0 < b.gr.q
  q1 : b.gr.q < 2305843009213693952
  k : 0 ≤ chS b s ∧ chS b s < b.gr.q
  top : byB (topF s) 32
  p0 : 0 ≤ s.pidx
  p1 : s.pidx < 9223372036854775807
theorem leafF_by (x : Int) : byB (leafF x) 32 := tagI_by _ _ _
theorem hd_of {b : Bas} {r : Rcd} {s : Spend} (h : hdB b r s = true) : HdOk b r s := by
  have h0 := h
  unfold hdB at h
  simp only [Bool.and_eq_true, Nat.beq_eq, beq_iff_eq] at h
  obtain ⟨⟨⟨⟨h1, h2⟩, _⟩, h4⟩, h5⟩ := h
  have k := node_t h2
  have hd : dpN s ≤ 5 := (sz_w h2).2.2
  have hp : 2 ^ dpN s ≤ 32 := by have := pow5 (d := dpN s) (k := 0) hd; rwa [Nat.sub_zero] at this
  have hq := validB_q (cv_ok h1).1
  exact ⟨h0, (cv_ok h1).1, (cv_ok h1).2, h2, h4, hd, by omega, by rw [h5]; exact ⟨k.2.2.2.2.1, k.2.2.2.2.2⟩, by omega, by rw [h4]; exact lvB_d hd, hq.1, hq.2, chS_q hq.1,
    tre_by (n := 2 ^ dpN s) (fun i _ => leafF_by _) (dpN s) 0 (by omega), by omega, by have := (p2 (k := s.level) (by omega) (by omega)).2.2.2; omega⟩
abbrev szW (s : Spend) : Int := IntKind.wrap .i64 (1 * 2 ^ min (Int.toNat (IntKind.wrap .i64 (s.depth - s.level))) 64)
theorem hd_ok {b : Bas} {r : Rcd} {s : Spend} (h : (((coinV b r s.coin = true ∧ nodeB s.depth s.level s.index = true) ∧ ctxB s.time s.number = true) ∧ (s.nl : Int) = szW s) ∧ s.pidx = s.index) : HdOk b r s := by
  refine hd_of ?_
  obtain ⟨⟨⟨⟨h1, h2⟩, h3⟩, h4⟩, h5⟩ := h
  have h4 := h4.trans (sz_w h2).1
  have h4 : s.nl = 2 ^ dpN s := Int.ofNat.inj h4
  unfold hdB
  rw [h1, h2, h3, (Nat.beq_eq ▸ h4 : Nat.beq s.nl (2 ^ dpN s) = true), h5]
  simp
theorem vfy_h {b : Bas} {r : Rcd} {s : Spend} (h : hdB b r s = false) : vfy b r s = false := by unfold vfy; rw [h]; rfl
theorem hd_no {b : Bas} {r : Rcd} {s : Spend} (h : (((coinV b r s.coin = false ∨ nodeB s.depth s.level s.index = false) ∨ ctxB s.time s.number = false) ∨ ¬ (s.nl : Int) = szW s) ∨ ¬ s.pidx = s.index) : vfy b r s = false := by
  refine vfy_h ?_
  rcases h with (((h | h) | h) | h) | h
  · unfold hdB; simp [h]
  · unfold hdB; simp [h]
  · unfold hdB; simp [h]
  · cases hn : nodeB s.depth s.level s.index with
    | false => unfold hdB; simp [hn]
    | true =>
      have h : ¬ (s.nl : Int) = ((2 ^ dpN s : Nat) : Int) := fun e => h (e.trans (sz_w hn).1.symm)
      have : Nat.beq s.nl (2 ^ dpN s) = false := by
        rw [Bool.eq_false_iff, ne_eq, Nat.beq_eq]
        exact fun e => h (congrArg Int.ofNat e)
      unfold hdB; simp [this]
  · unfold hdB; simp [h]
theorem okL_el {b : Bas} {s : Spend} {i : Nat} (h : okL b s i = true) : elemB b.gr (lbF s i) = true := by
  unfold okL leafB at h; simp only [Bool.and_eq_true] at h; exact h.1.1
theorem okL_no {b : Bas} {s : Spend} {i : Nat} (h : leafB b s.a (chS b s) (s.lf i 0) (s.lf i 1) (s.lf i 2) = false ∨ s.lf i 0 ∈ (List.range i).map fun i => lbF s (i + 0)) : okL b s i = false := by
  unfold okL newB
  rcases h with h | h
  · rw [h]; rfl
  · have h : lbF s i ∈ (List.range i).map (lbF s) := h
    rw [decide_eq_true h]; simp
theorem okL_yes {b : Bas} {s : Spend} {i : Nat} (h : leafB b s.a (chS b s) (s.lf i 0) (s.lf i 1) (s.lf i 2) = true ∧ ¬ s.lf i 0 ∈ (List.range i).map fun i => lbF s (i + 0)) : okL b s i = true := by
  unfold okL newB
  have h' : ¬ lbF s i ∈ (List.range i).map (lbF s) := h.2
  rw [decide_eq_false h', h.1]; rfl
theorem vfy_l {b : Bas} {r : Rcd} {s : Spend} {i : Nat} (hi : i < s.nl) (h : okL b s i = false) : vfy b r s = false := by
  unfold vfy; rw [allI_f hi h]; simp
theorem vfy_t {b : Bas} {r : Rcd} {s : Spend} (hd : hdB b r s = true) (h : ∀ i, i < s.nl → okL b s i = true) : vfy b r s = ((s.np : Int) == s.level && hEq (folF (topF s) s.pidx s.pf s.np) s.root) := by
  unfold vfy; rw [hd, allI_t h]; rfl
abbrev szR (s : Spend) : Int := IntKind.wrap .i64 (spanZ s.depth s.level s.index - spanA s.depth s.level s.index)
theorem sz_r {s : Spend} (h : nodeB s.depth s.level s.index = true) : szR s = ((2 ^ dpN s : Nat) : Int) := by
  have k := node_t h
  have e : spanZ s.depth s.level s.index - spanA s.depth s.level s.index = ((2 ^ dpN s : Nat) : Int) := by
    unfold spanZ spanA
    rw [if_pos h, if_pos h, Int.add_mul, Int.one_mul, Int.natCast_pow]
    show s.index * 2 ^ dpN s + 2 ^ dpN s - s.index * 2 ^ dpN s = 2 ^ dpN s
    generalize s.index * 2 ^ dpN s = y
    omega
  have hp : 2 ^ dpN s ≤ 32 := by have := pow5 (d := dpN s) (k := 0) (sz_w h).2.2; rwa [Nat.sub_zero] at this
  unfold szR
  rw [e]
  have hi : ((2 ^ dpN s : Nat) : Int) ≤ 32 := Int.ofNat_le.2 hp
  have h0 : (0 : Int) ≤ ((2 ^ dpN s : Nat) : Int) := Int.natCast_nonneg _
  generalize ((2 ^ dpN s : Nat) : Int) = y at hi h0
  exact wI (by omega) (by omega)
end Go.Sp

namespace Go.Proofs.YtdaaddkipdmajaaGreatDoor
open Go Go.Am Go.Sp
set_option maxRecDepth 100000

theorem containsF_c (n : Nat) (f : Nat → Int) (v : Int) (hn : n ≤ 1000) : Pure Tryz.prog gl0 72 [.isl 1 n fun i _ => .int .i64 (f i), .int .i64 v] (.bool (decide (v ∈ (List.range n).map f))) :=
  (containsN_c ((List.range n).map f) v (by simp; omega)).via ⟨map_ent, Ent.refl _, trivial⟩

theorem tverS_c (r h : Nat → Int) (i l : Int) (n : Nat) (P : Nat → Nat → Int) (hl : 0 ≤ l ∧ l ≤ 5) (hn : n ≤ 1000000) (hi : 0 ≤ i ∧ i < 2 ^ l.toNat) (hh : byB h 32) (hP : ∀ k, k < n → byB (P k) 32) :
    Pure Tryz.prog gl0 73 [.agg (u8c r), .agg (u8c h), .int .i64 l, .agg [.int .i64 i, hsl n P]] (.bool ((n : Int) == l && hEq (folF h i P n) r)) := by
  obtain ⟨m, rfl⟩ : ∃ m : Nat, l = m := ⟨l.toNat, by omega⟩
  have hi2 : i < ((2 ^ m : Nat) : Int) := by
    have := hi.2
    rw [show (m : Int).toNat = m by omega] at this
    rw [Int.natCast_pow]
    exact this
  by_cases e : n = m
  · subst e
    rw [show ((n : Int) == (n : Int)) = true by simp, Bool.true_and]
    exact tver_ok r h i n P (by omega) hi.1 hi2 hh hP
  · rw [show ((n : Int) == (m : Int)) = false by simp; omega, Bool.false_and]
    exact tver_no r h i m n P (by omega) e hn hi.1 hi2

theorem trootS_c (n d : Nat) (h : Nat → Nat → Int) (hn : n = 2 ^ d) (hd : d ≤ 5) (hb : ∀ i, i < n → byB (h i) 32) : Pure Tryz.prog gl0 58 [hsl n h] (.tup [.agg (u8c (treF h d 0)), .int .i64 0]) := by
  subst hn
  exact troot_c d hd h hb

theorem vfy_c (b : Bas) (r : Rcd) (s : Spend) (hw : b.gr.W) (hr : byB s.root 32) (hp : byB s.payee 32) (hf : ∀ k, k < s.np → byB (s.pf k) 32) (hn : s.np ≤ 1000000) (hl : s.nl ≤ 1000) : Pure Tryz.prog gl0 17 [b.av, r.av, s.av] (.bool (vfy b r s)) := by
  have c1 := cval_c b r s.coin hw hr
  have c2 := node_c s.depth s.level s.index
  have c3 := context_c s.cxt
  have c4 := chal_c b s.coin s.level s.index s.cxt hr hp
  have c5 := fun x r1 r2 hv ha hk => sright_c b s.a (chS b s) x r1 r2 hw hv ha hk
  have c6 := fun N h1 h2 h3 h4 => chash_n b N h1 h2 (lbF s) hw h3 h4
  have c7 := fun n h1 h2 h3 => trootS_c n (dpN s) (fun i => leafF (lbF s i)) h1 h2 h3
  have c8 := fun h1 h2 h3 => tverS_c s.root (topF s) s.pidx s.level s.np s.pf h1 hn h2 h3 hf
  refine pure_sk (own := ow0) Tryz.func17 (by kernel_rfl) mixed (by kernel_rfl)
    (.sc (true) 67 ([AV.agg (Bas.cells b), AV.agg (Rcd.cells r), AV.agg (Zi s.1 :: Zi s.2 :: Zi s.3 :: Zi s.4 :: Zi s.5 :: (u8c s.6 ++ [Zi s.7, Zi s.8, Zi s.9, Zi s.10]))]) (AV.bool (coinV b r (Spend.coin s))) (.sc ((!coinV b r (Spend.coin s)) == false) 68 ([Zi s.4, AV.agg [Zi s.11, Zi s.12]]) (AV.bool (nodeB (Spend.depth s) (Spend.level s) (Spend.index s))) (.sc ((!coinV b r (Spend.coin s) || !nodeB s.4 s.11 s.12) == false) 69 ([AV.agg (u8c s.13 ++ [Zi s.14, Zi s.15])]) (AV.bool (ctxB (Cxt.time (Spend.cxt s)) (Cxt.number (Spend.cxt s)))) (.req (((!coinV b r (Spend.coin s) || !nodeB s.4 s.11 s.12 || !ctxB s.14 s.15) == false) = true → (0 : Int) ≤ IntKind.wrap IntKind.i64 (s.4 - s.11)) (.br (!coinV b r (Spend.coin s) || !nodeB s.4 s.11 s.12 || !ctxB s.14 s.15 || (↑s.16 : Int) != IntKind.wrap IntKind.i64 ((1 : Int) * (2 : Int) ^ min (Int.toNat (IntKind.wrap IntKind.i64 (s.4 - s.11))) (64)) || s.18 != s.12) (.out (AV.bool false) [] (AV.bool (vfy b r s)) []) (.sc (true) 70 ([AV.agg (Bas.cells b), AV.agg (Zi s.1 :: Zi s.2 :: Zi s.3 :: Zi s.4 :: Zi s.5 :: (u8c s.6 ++ [Zi s.7, Zi s.8, Zi s.9, Zi s.10])), AV.agg [Zi s.11, Zi s.12], AV.agg (u8c s.13 ++ [Zi s.14, Zi s.15])]) (Zi (chalN (Grp.q (Bas.gr b)) (Spend.coin s) (Spend.level s) (Spend.index s) (Spend.cxt s))) (.loop ({ x : Nat // x ≤ Spend.nl s ∧ (fun (x : Nat) => ∀ (j : Nat), j < x → okL b s j = true) x }) (fun (x : { x : Nat // x ≤ Spend.nl s ∧ (fun (x : Nat) => ∀ (j : Nat), j < x → okL b s j = true) x }) => mkSt [2, 3, 5, 7, 67, 68, 8, 69] [AV.agg (Spend.cells s), AV.own (0) (6) (0) (0) (6), AV.own (1) (80) (0) (0) (80), Zi (chalN (Bas.gr b).2 (Spend.coin s) s.11 s.12 (Spend.cxt s)), AV.isl (3) s.16 fun (i j : Nat) => Zi (s.17 i j), Zi (↑s.16 : Int), AV.osl (2 : Nat) (1 : Nat) (0 : Nat) (x.1), Zi (↑(x.1) : Int)] [some { es := 6, n := 1, mu := true, f := Rep.lst [Bas.cells b] }, some { es := 80, n := 1, mu := true, f := Rep.lst [Spend.cells s] }, some { es := (1 : Nat), n := x.1, mu := true, f := Rep.fn fun (i x : Nat) => Zi (lbF s i) }]) (fun (x : { x : Nat // x ≤ Spend.nl s ∧ (fun (x : Nat) => ∀ (j : Nat), j < x → okL b s j = true) x }) => Spend.nl s - x.1) (⟨(0 : Nat), ⟨Nat.zero_le (Spend.nl s), fun (j : Nat) (hj : j < (0 : Nat)) => absurd hj (Nat.not_lt_zero j)⟩⟩) ([2, 3, 5, 7, 67, 68, 8, 69]) ([0, 16, 754]) ([AV.agg (Spend.cells s), AV.own (0) (6) (0) (0) (6), AV.own (1) (80) (0) (0) (80), Zi (chalN (Bas.gr b).2 (Spend.coin s) s.11 s.12 (Spend.cxt s)), AV.isl (3) s.16 fun (i j : Nat) => Zi (s.17 i j), Zi (↑s.16 : Int), AV.nsl, Zi 0]) ([some { es := 6, n := 1, mu := true, f := Rep.lst [Bas.cells b] }, some { es := 80, n := 1, mu := true, f := Rep.lst [Spend.cells s] }, some { es := 1, n := 0, mu := true, f := Rep.lst [] }]) (fun x7 => (.br (decide ((↑x7.1 : Int) < (↑s.16 : Int))) (.req ((0 : Int) ≤ (↑x7.1 : Int) ∧ (↑x7.1 : Int) < (↑s.16 : Int)) (.sc (true) 71 ([AV.agg (Bas.cells b), Zi s.5, Zi (chalN (Bas.gr b).2 (Spend.coin s) s.11 s.12 (Spend.cxt s)), AV.agg [Zi (s.17 (Int.toNat (↑x7.1 : Int)) (0)), Zi (s.17 (Int.toNat (↑x7.1 : Int)) (1)), Zi (s.17 (Int.toNat (↑x7.1 : Int)) (2))]]) (AV.bool (leafB b (Spend.a s) (chS b s) (s.17 (Int.toNat (↑x7.1 : Int)) (0)) (s.17 (Int.toNat (↑x7.1 : Int)) (1)) (s.17 (Int.toNat (↑x7.1 : Int)) (2)))) (.sc ((!leafB b s.5 (chS b s) (s.17 (Int.toNat (↑x7.1 : Int)) (0)) (s.17 (Int.toNat (↑x7.1 : Int)) (1)) (s.17 (Int.toNat (↑x7.1 : Int)) (2))) == false) 72 ([AV.isl (1) x7.1 fun (r k : Nat) => Zi (lbF s (r + 0)), Zi (s.17 (Int.toNat (↑x7.1 : Int)) (0))]) (AV.bool (decide (s.17 (Int.toNat (↑x7.1 : Int)) (0) ∈ List.map (fun (i : Nat) => lbF s (i + 0)) (List.range x7.1)))) (.br (!leafB b s.5 (chS b s) (s.17 (Int.toNat (↑x7.1 : Int)) (0)) (s.17 (Int.toNat (↑x7.1 : Int)) (1)) (s.17 (Int.toNat (↑x7.1 : Int)) (2)) || decide (s.17 (Int.toNat (↑x7.1 : Int)) (0) ∈ List.map (fun (i : Nat) => lbF s (i + 0)) (List.range x7.1))) (.out (AV.bool false) [] (AV.bool (vfy b r s)) []) (.req ((x7.1 + 1) * 8 ≤ 140737488355328) (.again (Again (0) (fun (x : { x : Nat // x ≤ Spend.nl s ∧ (fun (x : Nat) => ∀ (j : Nat), j < x → okL b s j = true) x }) => mkSt [2, 3, 5, 7, 67, 68, 8, 69] [AV.agg (Spend.cells s), AV.own (0) (6) (0) (0) (6), AV.own (1) (80) (0) (0) (80), Zi (chalN (Bas.gr b).2 (Spend.coin s) s.11 s.12 (Spend.cxt s)), AV.isl (3) s.16 fun (i j : Nat) => Zi (s.17 i j), Zi (↑s.16 : Int), AV.osl (2 : Nat) (1 : Nat) (0 : Nat) (x.1), Zi (↑(x.1) : Int)] [some { es := 6, n := 1, mu := true, f := Rep.lst [Bas.cells b] }, some { es := 80, n := 1, mu := true, f := Rep.lst [Spend.cells s] }, some { es := (1 : Nat), n := x.1, mu := true, f := Rep.fn fun (i x : Nat) => Zi (lbF s i) }]) (fun (x : { x : Nat // x ≤ Spend.nl s ∧ (fun (x : Nat) => ∀ (j : Nat), j < x → okL b s j = true) x }) => Spend.nl s - x.1) x7) ([2, 3, 5, 7, 67, 68, 8, 69]) ([0, 1, 187]) ([AV.agg (Spend.cells s), AV.own (0) (6) (0) (0) (6), AV.own (1) (80) (0) (0) (80), Zi (chalN (Bas.gr b).2 (Spend.coin s) s.11 s.12 (Spend.cxt s)), AV.isl (3) s.16 fun (i j : Nat) => Zi (s.17 i j), Zi (↑s.16 : Int), AV.osl (2) (1) (0) (x7.1 + 1), Zi (IntKind.wrap IntKind.i64 ((↑x7.1 : Int) + (1 : Int)))]) ([some { es := 6, n := 1, mu := true, f := Rep.lst [Bas.cells b] }, some { es := 80, n := 1, mu := true, f := Rep.lst [Spend.cells s] }, some { es := 1, n := x7.1 + 1, mu := true, f := Rep.fn fun (i j : Nat) => Zi (bif Nat.blt i x7.1 then lbF s i else intOfAV (atL [Zi (s.17 (Int.toNat (↑(x7.1) : Int)) (0))] j)) }]))))))) (.dc (true) 57 ([AV.agg (Bas.cells b), AV.isl (1) x7.1 fun (r k : Nat) => Zi (lbF s (r + 0))]) (AV.tup [hsl x7.1 fun (i : Nat) => leafF (lbF s i), Zi 0]) (.ff (.sc (true) 58 ([AV.isl (32) x7.1 fun (i j : Nat) => Zb (leafF (lbF s i) j)]) (AV.tup [AV.agg (u8c (treF (fun (i : Nat) => leafF (lbF s i)) (dpN s) (0 : Nat))), Zi 0]) (.sc (true) 73 ([AV.agg (u8c s.6), AV.agg (u8c (treF (fun (i : Nat) => leafF (lbF s i)) (dpN s) (0))), Zi s.11, AV.agg [Zi s.18, AV.isl (32) s.19 fun (i j : Nat) => Zb (s.20 i j)]]) (AV.bool ((↑(Spend.np s) : Int) == Spend.level s && hEq (folF (topF s) (Spend.pidx s) (Spend.pf s) (Spend.np s)) (Spend.root s))) (.out (AV.bool ((↑s.19 : Int) == s.11 && hEq (folF (topF s) s.18 s.20 s.19) s.6)) [] (AV.bool (vfy b r s)) []))))))))))))))
    (by kernel_rfl) ?_
  refine k_sc (c1) ?_
  refine k_scg (fun h1 => c2) ?_
  refine k_scg (fun h2 => c3) ?_
  refine k_req (fun hr => by have hr := (cnd_eqf_t (cnd_or_f (cnd_or_f (cnd_not_f cnd_id_t) (cnd_not_f cnd_id_t)) (cnd_not_f cnd_id_t))) hr; have k := node_t hr.1.2; have e := (sz_w hr.1.2).2.1; rw [e]; omega) ?_
  refine k_br (fun h4 => ?_) (fun h4 => ?_)
  · have g4 := (cnd_or_t (cnd_or_t (cnd_or_t (cnd_or_t (cnd_not_t cnd_id_f) (cnd_not_t cnd_id_f)) (cnd_not_t cnd_id_f)) cnd_bne_t) cnd_bne_t) h4
    exact k_out (Ent.of_eq (congrArg _ (hd_no g4).symm))
  · have g4 := (cnd_or_f (cnd_or_f (cnd_or_f (cnd_or_f (cnd_not_f cnd_id_t) (cnd_not_f cnd_id_t)) (cnd_not_f cnd_id_t)) cnd_bne_f) cnd_bne_f) h4
    refine k_sc (c4 (by first | omega | (cases hd_ok g4; assumption) | exact fun i hi => okL_el (x7.2.2 i hi) | (cases hd_ok g4; rw [show x7.1 = s.nl by omega]; assumption) | exact fun i _ => leafF_by _) (by first | omega | (cases hd_ok g4; assumption) | exact fun i hi => okL_el (x7.2.2 i hi) | (cases hd_ok g4; rw [show x7.1 = s.nl by omega]; assumption) | exact fun i _ => leafF_by _)) ?_
    refine k_loop (fun _ hs => hs.le (by repeat' (first | exact trivial | (first | exact Ent.refl _ | exact inc_ent (by omega) | exact Ent.nil rfl | exact Ent.of_eq (congrArg (AV.osl _ _ _) (by first | omega | (dsimp only; omega))) | exact Ent.of_eq (congrArg (AV.int _) (by first | omega | (dsimp only; omega)))) | refine And.intro ?_ ?_)) (by repeat' (first | exact trivial | (first | exact ObEnt.refl _ | exact ObEnt.junk | exact ObEnt.zero | exact ObEnt.push rfl rfl | exact ObEnt.pushRow rfl | exact ObEnt.len (by omega) | exact ObEnt.row (by repeat' (first | exact trivial | (first | exact Ent.refl _ | exact inc_ent (by omega) | exact Ent.nil rfl | exact Ent.of_eq (congrArg (AV.osl _ _ _) (by first | omega | (dsimp only; omega))) | exact Ent.of_eq (congrArg (AV.int _) (by first | omega | (dsimp only; omega)))) | refine And.intro ?_ ?_))) | refine And.intro ?_ ?_))) (fun x7 => ?_)
    try (have q7 := x7.2; dsimp only at q7)
    refine k_br (fun h8 => ?_) (fun h8 => ?_)
    · have g8 := cnd_dec_t h8
      refine k_req (by first | omega | (simp only [Int.toNat_natCast]; omega)) ?_
      refine k_sc (c5 (s.17 (Int.toNat (↑x7.1 : Int)) (0)) (s.17 (Int.toNat (↑x7.1 : Int)) (1)) (s.17 (Int.toNat (↑x7.1 : Int)) (2)) (by first | omega | (cases hd_ok g4; assumption) | exact fun i hi => okL_el (x7.2.2 i hi) | (cases hd_ok g4; rw [show x7.1 = s.nl by omega]; assumption) | exact fun i _ => leafF_by _) (by first | omega | (cases hd_ok g4; assumption) | exact fun i hi => okL_el (x7.2.2 i hi) | (cases hd_ok g4; rw [show x7.1 = s.nl by omega]; assumption) | exact fun i _ => leafF_by _) (by first | omega | (cases hd_ok g4; assumption) | exact fun i hi => okL_el (x7.2.2 i hi) | (cases hd_ok g4; rw [show x7.1 = s.nl by omega]; assumption) | exact fun i _ => leafF_by _)) ?_
      refine k_scg (fun h11 => containsF_c (x7.1) (fun (i : Nat) => lbF s (i + 0)) (s.17 (Int.toNat (↑x7.1 : Int)) (0)) (by first | omega | (cases hd_ok g4; assumption) | exact fun i hi => okL_el (x7.2.2 i hi) | (cases hd_ok g4; rw [show x7.1 = s.nl by omega]; assumption) | exact fun i _ => leafF_by _)) ?_
      refine k_br (fun h12 => ?_) (fun h12 => ?_)
      · have g12 := (cnd_or_t (cnd_not_t cnd_id_f) cnd_dec_t) h12
        try simp only [Int.toNat_natCast] at g12
        exact k_out (Ent.of_eq (congrArg _ (vfy_l (by omega) (okL_no g12)).symm))
      · have g12 := (cnd_or_f (cnd_not_f cnd_id_t) cnd_dec_f) h12
        try simp only [Int.toNat_natCast] at g12
        refine k_req (by first | omega | (simp only [Int.toNat_natCast]; omega)) ?_
        exact k_again (⟨x7.1 + 1, by omega, all_next x7.2.2 (okL_yes g12)⟩) (fun _ hs => hs.le (by repeat' (first | exact trivial | (first | exact Ent.refl _ | exact inc_ent (by omega) | exact Ent.nil rfl | exact Ent.of_eq (congrArg (AV.osl _ _ _) (by first | omega | (dsimp only; omega))) | exact Ent.of_eq (congrArg (AV.int _) (by first | omega | (dsimp only; omega)))) | refine And.intro ?_ ?_)) (by repeat' (first | exact trivial | (first | exact ObEnt.refl _ | exact ObEnt.junk | exact ObEnt.zero | exact ObEnt.push rfl rfl | exact ObEnt.pushRow rfl | exact ObEnt.len (by omega) | exact ObEnt.row (by repeat' (first | exact trivial | (first | exact Ent.refl _ | exact inc_ent (by omega) | exact Ent.nil rfl | exact Ent.of_eq (congrArg (AV.osl _ _ _) (by first | omega | (dsimp only; omega))) | exact Ent.of_eq (congrArg (AV.int _) (by first | omega | (dsimp only; omega)))) | refine And.intro ?_ ?_))) | refine And.intro ?_ ?_))) (by first | omega | (dsimp only; omega) | (simp; omega))
    · have g8 := cnd_dec_f h8
      refine k_dc (c6 (x7.1) (by first | omega | (cases hd_ok g4; assumption) | exact fun i hi => okL_el (x7.2.2 i hi) | (cases hd_ok g4; rw [show x7.1 = s.nl by omega]; assumption) | exact fun i _ => leafF_by _) (by first | omega | (cases hd_ok g4; assumption) | exact fun i hi => okL_el (x7.2.2 i hi) | (cases hd_ok g4; rw [show x7.1 = s.nl by omega]; assumption) | exact fun i _ => leafF_by _) (by first | omega | (cases hd_ok g4; assumption) | exact fun i hi => okL_el (x7.2.2 i hi) | (cases hd_ok g4; rw [show x7.1 = s.nl by omega]; assumption) | exact fun i _ => leafF_by _) (by first | omega | (cases hd_ok g4; assumption) | exact fun i hi => okL_el (x7.2.2 i hi) | (cases hd_ok g4; rw [show x7.1 = s.nl by omega]; assumption) | exact fun i _ => leafF_by _)) ?_
      refine k_ff ?_
      refine k_sc (c7 (x7.1) (by first | omega | (cases hd_ok g4; assumption) | exact fun i hi => okL_el (x7.2.2 i hi) | (cases hd_ok g4; rw [show x7.1 = s.nl by omega]; assumption) | exact fun i _ => leafF_by _) (by first | omega | (cases hd_ok g4; assumption) | exact fun i hi => okL_el (x7.2.2 i hi) | (cases hd_ok g4; rw [show x7.1 = s.nl by omega]; assumption) | exact fun i _ => leafF_by _) (by first | omega | (cases hd_ok g4; assumption) | exact fun i hi => okL_el (x7.2.2 i hi) | (cases hd_ok g4; rw [show x7.1 = s.nl by omega]; assumption) | exact fun i _ => leafF_by _)) ?_
      refine k_sc (c8 (by first | omega | (cases hd_ok g4; assumption) | exact fun i hi => okL_el (x7.2.2 i hi) | (cases hd_ok g4; rw [show x7.1 = s.nl by omega]; assumption) | exact fun i _ => leafF_by _) (by first | omega | (cases hd_ok g4; assumption) | exact fun i hi => okL_el (x7.2.2 i hi) | (cases hd_ok g4; rw [show x7.1 = s.nl by omega]; assumption) | exact fun i _ => leafF_by _) (by first | omega | (cases hd_ok g4; assumption) | exact fun i hi => okL_el (x7.2.2 i hi) | (cases hd_ok g4; rw [show x7.1 = s.nl by omega]; assumption) | exact fun i _ => leafF_by _)) ?_
      exact k_out (Ent.of_eq (congrArg _ (vfy_t (hd_ok g4).hd (fun i hi => x7.2.2 i (by omega))).symm))

end Go.Proofs.YtdaaddkipdmajaaGreatDoor

namespace Go.Proofs.YtdaaddkipdmajaaGreatDoor
open Go Go.Am Go.Sp
set_option maxRecDepth 100000

end Go.Proofs.YtdaaddkipdmajaaGreatDoor

namespace Go.Sp
open Go Go.Am
abbrev rcl (n : Nat) (R : Nat → Nat → Int) : AV := .isl 11 n fun i j => .int .i64 (R i j)
def rcdOf (f : Nat → Int) : Rcd := ⟨f 0, f 1, f 2, f 3, f 4, f 5, f 6, f 7, f 8, f 9, f 10⟩
def fnB (R : Nat → Nat → Int) (k e d : Int) (i : Nat) : Bool := R i 0 == k && R i 1 == e && R i 2 == d
def fnI (R : Nat → Nat → Int) (n : Nat) (k e d : Int) : Int := firstI (fnB R k e d) n 0
def fnS (R : Nat → Nat → Int) (n : Nat) (s : Spend) : Int := fnI R n s.bank s.epoch s.denom
def rcX (R : Nat → Nat → Int) (n : Nat) (s : Spend) : Rcd := bif decide (fnS R n s ≥ 0) then rcdOf (R (fnS R n s).toNat) else rcdOf fun _ => 0
def verd (b : Bas) (R : Nat → Nat → Int) (n : Nat) (s : Spend) : Bool := decide (fnS R n s ≥ 0) && vfy b (rcX R n s) s
theorem fnI_lt {R : Nat → Nat → Int} {n : Nat} {k e d : Int} (h : ¬ fnI R n k e d < 0) : 0 ≤ fnI R n k e d ∧ fnI R n k e d < n := by
  have := firstI_lt (p := fnB R k e d) n 0
  unfold fnI at *
  omega
theorem rcX_no {R : Nat → Nat → Int} {n : Nat} {s : Spend} (h : fnS R n s < 0) : rcX R n s = rcdOf fun _ => 0 := by
  unfold rcX; rw [decide_eq_false (by omega)]; rfl
theorem rcX_ok {R : Nat → Nat → Int} {n : Nat} {s : Spend} (h : ¬ fnS R n s < 0) : rcX R n s = rcdOf (R (fnS R n s).toNat) := by
  unfold rcX; rw [decide_eq_true (by omega)]; rfl
noncomputable def glK (b : Bas) (s t : Spend) (leaf : Int) : Int × Int :=
  if (secR b s t leaf).2 = 0 then (if (secR b s t leaf).1 = 0 ∨ msgI b (secR b s t leaf).1 = 1 then (0, 10) else (b.g1 ^ (secR b s t leaf).1.toNat % b.gr.p, 0)) else (0, (secR b s t leaf).2)
theorem rec_no {R : Nat → Nat → Int} {n : Nat} {s : Spend} (h : fnS R n s < 0) : AV.tup [(rcdOf fun _ => 0).av, .bool false] = .tup [(rcX R n s).av, .bool (decide (fnS R n s ≥ 0))] := by
  rw [rcX_no h, decide_eq_false (by omega)]
theorem rec_ok {R : Nat → Nat → Int} {n : Nat} {s : Spend} (h : ¬ fnS R n s < 0) : AV.tup [(rcdOf (R (fnS R n s).toNat)).av, .bool true] = .tup [(rcX R n s).av, .bool (decide (fnS R n s ≥ 0))] := by
  rw [rcX_ok h, decide_eq_true (by omega)]
theorem secR_ok {b : Bas} {s t : Spend} {leaf : Int} (h : (secR b s t leaf).2 = 0) : b.Ok ∧ 0 ≤ (secR b s t leaf).1 ∧ (secR b s t leaf).1 < b.gr.q := by
  unfold secR at h ⊢
  split at h
  · cases h
  rename_i h0
  have hv : validB b = true := by
    cases hv : validB b with
    | true => rfl
    | false => exact absurd (.inl hv) h0
  have hq := validB_q hv
  rw [if_neg h0]
  split at h
  · cases h
  rename_i h1
  rw [if_neg h1]
  split at h
  · cases h
  rename_i h2
  rw [if_neg h2]
  split at h
  · cases h
  rename_i h3
  rw [if_neg h3]
  split at h
  · cases h
  rename_i h4
  rw [if_neg h4]
  split at h
  · cases h
  rename_i h5
  rw [if_neg h5]
  exact ⟨validB_iff.1 hv, Int.emod_nonneg _ (by omega), Int.emod_lt_of_pos _ hq.1⟩
theorem glK_1 {b : Bas} {s t : Spend} {leaf : Int} (h : ¬ (secR b s t leaf).2 = 0) : glK b s t leaf = (0, (secR b s t leaf).2) := if_neg h
theorem glK_2 {b : Bas} {s t : Spend} {leaf : Int} (h : (secR b s t leaf).2 = 0) (h' : (secR b s t leaf).1 = 0 ∨ msgI b (secR b s t leaf).1 = 1) : glK b s t leaf = (0, 10) := by
  unfold glK; rw [if_pos h, if_pos h']
theorem glK_3 {b : Bas} {s t : Spend} {leaf : Int} (h : (secR b s t leaf).2 = 0) (h' : ¬ (secR b s t leaf).1 = 0 ∧ ¬ msgI b (secR b s t leaf).1 = 1) : glK b s t leaf = (b.g1 ^ (secR b s t leaf).1.toNat % b.gr.p, 0) := by
  unfold glK; rw [if_pos h, if_neg (by simp [h'])]
theorem gl_out {b : Bas} {s t : Spend} {leaf : Int} {x : Int × Int} (h : glK b s t leaf = x) : AV.tup [.int .i64 x.1, .int .i64 x.2] = .tup [.int .i64 (glK b s t leaf).1, .int .i64 (glK b s t leaf).2] := by rw [h]
theorem okS_hd {b : Bas} {r : Rcd} {s : Spend} (h : hdB b r s = true) : okS s = true := by
  have k := hd_of h
  have hn := k.n
  have h0 := h
  unfold hdB at h
  simp only [Bool.and_eq_true] at h
  have hc := h.1.1.2
  have hsp := (span_d hn).1
  have hl : (s.nl : Int) = szR s := by rw [sz_r hn, k.l]
  unfold ctxB at hc
  simp only [Bool.and_eq_true, decide_eq_true_eq] at hc
  unfold okS
  rw [hsp, show ((s.nl : Int) != IntKind.wrap .i64 (spanZ s.depth s.level s.index - spanA s.depth s.level s.index)) = false by simpa using hl]
  simp
  omega
theorem vd_ok {b : Bas} {R : Nat → Nat → Int} {n : Nat} {s : Spend} (h : verd b R n s = true) : validB b = true ∧ okS s = true := by
  unfold verd vfy at h
  simp only [Bool.and_eq_true] at h
  have h := h.2.1.1
  exact ⟨(hd_of h).v, okS_hd h⟩
theorem few_pp {s t : Spend} (h : fewB s = true ∧ fewB t = true) : s.np ≤ 1000000 ∧ t.np ≤ 1000000 := by
  simp [fewB] at h
  omega
end Go.Sp

namespace Go.Proofs.YtdaaddkipdmajaaGreatDoor
open Go Go.Am Go.Sp
set_option maxRecDepth 100000

abbrev kFV160 : List AV := [AV.agg [Zi 0, Zi 0, Zi 0, Zi 0, Zi 0, Zi 0, Zi 0, Zi 0, Zi 0, Zi 0, Zi 0], AV.bool false]
theorem vfind1_c (r0 r1 r2 r3 r4 r5 r6 r7 r8 r9 r10 k e d : Int) : Pure Tryz.prog gl0 227 [.agg [.int .i64 r0, .int .i64 r1, .int .i64 r2, .int .i64 r3, .int .i64 r4, .int .i64 r5, .int .i64 r6, .int .i64 r7, .int .i64 r8, .int .i64 r9, .int .i64 r10], .ipt 1 (atL [.int .i64 k]), .ipt 1 (atL [.int .i64 e]), .ipt 1 (atL [.int .i64 d])] (.bool (r0 == k && r1 == e && r2 == d)) := by
  refine pure_sk (own := ow0) Tryz.func227 (by kernel_rfl) mixed (by kernel_rfl)
    (.out (AV.bool (r0 == k && r1 == e && r2 == d)) [] (AV.bool (r0 == k && r1 == e && r2 == d)) [])
    (by kernel_rfl) ?_
  exact k_out (Ent.refl _)

theorem vindex_c (R : Nat → Nat → Int) (n : Nat) (k e d : Int) (hn : n ≤ 1000) : Pure Tryz.prog gl0 226 [rcl n R, .fn (.func 227) [] [.ipt 1 (atL [.int .i64 k]), .ipt 1 (atL [.int .i64 e]), .ipt 1 (atL [.int .i64 d])]] (.int .i64 (fnI R n k e d)) := by
  unfold fnI
  refine pure_sk (own := ow0) Tryz.func226 (by kernel_rfl) mixed (by kernel_rfl)
    (.loop ({ x : Nat // x ≤ n ∧ (fun (i : Nat) => firstI (fnB R k e d) n (0 : Nat) = firstI (fnB R k e d) (n - i) i) x }) (fun (x : { x : Nat // x ≤ n ∧ (fun (i : Nat) => firstI (fnB R k e d) n (0 : Nat) = firstI (fnB R k e d) (n - i) i) x }) => mkSt [0, 1, 7, 8] [AV.isl (11) n fun (i j : Nat) => Zi (R i j), AV.fn (Fn.func (227 : FuncId)) [] [AV.ipt (1) (atL [Zi k]), AV.ipt (1) (atL [Zi e]), AV.ipt (1) (atL [Zi d])], Zi (↑n : Int), Zi (↑(x.1) : Int)] []) (fun (x : { x : Nat // x ≤ n ∧ (fun (i : Nat) => firstI (fnB R k e d) n (0 : Nat) = firstI (fnB R k e d) (n - i) i) x }) => n - x.1) (⟨(0 : Nat), ⟨Nat.zero_le n, rfl⟩⟩) ([0, 1, 7, 8]) ([]) ([AV.isl (11) n fun (i j : Nat) => Zi (R i j), AV.fn (Fn.func (227 : FuncId)) [] [AV.ipt (1) (atL [Zi k]), AV.ipt (1) (atL [Zi e]), AV.ipt (1) (atL [Zi d])], Zi (↑n : Int), Zi 0]) ([]) (fun x0 => (.br (decide ((↑x0.1 : Int) < (↑n : Int))) (.req ((0 : Int) ≤ (↑x0.1 : Int) ∧ (↑x0.1 : Int) < (↑n : Int)) (.sc (true) 227 ([AV.agg [Zi (R (Int.toNat (↑x0.1 : Int)) (0)), Zi (R (Int.toNat (↑x0.1 : Int)) (1)), Zi (R (Int.toNat (↑x0.1 : Int)) (2)), Zi (R (Int.toNat (↑x0.1 : Int)) (3)), Zi (R (Int.toNat (↑x0.1 : Int)) (4)), Zi (R (Int.toNat (↑x0.1 : Int)) (5)), Zi (R (Int.toNat (↑x0.1 : Int)) (6)), Zi (R (Int.toNat (↑x0.1 : Int)) (7)), Zi (R (Int.toNat (↑x0.1 : Int)) (8)), Zi (R (Int.toNat (↑x0.1 : Int)) (9)), Zi (R (Int.toNat (↑x0.1 : Int)) (10))], AV.ipt (1) (atL [Zi k]), AV.ipt (1) (atL [Zi e]), AV.ipt (1) (atL [Zi d])]) (AV.bool (R (Int.toNat (↑x0.1 : Int)) (0) == k && R (Int.toNat (↑x0.1 : Int)) (1) == e && R (Int.toNat (↑x0.1 : Int)) (2) == d)) (.br (R (Int.toNat (↑x0.1 : Int)) (0) == k && R (Int.toNat (↑x0.1 : Int)) (1) == e && R (Int.toNat (↑x0.1 : Int)) (2) == d) (.out (Zi (↑x0.1 : Int)) [] (Zi (firstI (fnB R k e d) n (0 : Nat))) []) (.again (Again (0) (fun (x : { x : Nat // x ≤ n ∧ (fun (i : Nat) => firstI (fnB R k e d) n (0 : Nat) = firstI (fnB R k e d) (n - i) i) x }) => mkSt [0, 1, 7, 8] [AV.isl (11) n fun (i j : Nat) => Zi (R i j), AV.fn (Fn.func (227 : FuncId)) [] [AV.ipt (1) (atL [Zi k]), AV.ipt (1) (atL [Zi e]), AV.ipt (1) (atL [Zi d])], Zi (↑n : Int), Zi (↑(x.1) : Int)] []) (fun (x : { x : Nat // x ≤ n ∧ (fun (i : Nat) => firstI (fnB R k e d) n (0 : Nat) = firstI (fnB R k e d) (n - i) i) x }) => n - x.1) x0) ([0, 1, 7, 8]) ([]) ([AV.isl (11) n fun (i j : Nat) => Zi (R i j), AV.fn (Fn.func (227 : FuncId)) [] [AV.ipt (1) (atL [Zi k]), AV.ipt (1) (atL [Zi e]), AV.ipt (1) (atL [Zi d])], Zi (↑n : Int), Zi (IntKind.wrap IntKind.i64 ((↑x0.1 : Int) + (1 : Int)))]) ([]))))) (.out (Zi (-1)) [] (Zi (firstI (fnB R k e d) n (0 : Nat))) []))))
    (by kernel_rfl) ?_
  refine k_loop (fun _ hs => hs.le (⟨.refl _, .refl _, .refl _, .refl _, trivial⟩) (trivial)) (fun x0 => ?_)
  try (have q0 := x0.2; dsimp only at q0)
  refine k_br (fun h1 => ?_) (fun h1 => ?_)
  · have g1 := cnd_dec_t h1
    refine k_req (by omega) ?_
    refine k_sc (vfind1_c (R (Int.toNat (↑x0.1 : Int)) (0)) (R (Int.toNat (↑x0.1 : Int)) (1)) (R (Int.toNat (↑x0.1 : Int)) (2)) (R (Int.toNat (↑x0.1 : Int)) (3)) (R (Int.toNat (↑x0.1 : Int)) (4)) (R (Int.toNat (↑x0.1 : Int)) (5)) (R (Int.toNat (↑x0.1 : Int)) (6)) (R (Int.toNat (↑x0.1 : Int)) (7)) (R (Int.toNat (↑x0.1 : Int)) (8)) (R (Int.toNat (↑x0.1 : Int)) (9)) (R (Int.toNat (↑x0.1 : Int)) (10)) (k) (e) (d)) ?_
    refine k_br (fun h4 => ?_) (fun h4 => ?_)
    · have g4 := (cnd_and_t (cnd_and_t cnd_beq_t cnd_beq_t) cnd_beq_t) h4
      try simp only [Int.toNat_natCast] at g4
      exact k_out (Ent.of_eq (congrArg _ (first_hit x0.2.2 (by omega) h4)))
    · have g4 := (cnd_and_f (cnd_and_f cnd_beq_f cnd_beq_f) cnd_beq_f) h4
      try simp only [Int.toNat_natCast] at g4
      exact k_again (⟨x0.1 + 1, by omega, first_next x0.2.2 (by omega) h4⟩) (fun _ hs => hs.le (⟨.refl _, .refl _, .refl _, inc_ent (by omega), trivial⟩) (trivial)) (by dsimp only; omega)
  · have g1 := cnd_dec_f h1
    exact k_out (Ent.of_eq (congrArg _ (first_miss x0.2.2 (by omega))))

theorem vfind_c (R : Nat → Nat → Int) (n : Nat) (k e d : Int) (hn : n ≤ 1000) : Pure Tryz.prog gl0 182 [rcl n R, .int .i64 k, .int .i64 e, .int .i64 d] (.int .i64 (fnI R n k e d)) := by
  have c1 := vindex_c R n k e d hn
  refine pure_sk (own := ow0) Tryz.func182 (by kernel_rfl) mixed (by kernel_rfl)
    (.sc (true) 226 ([AV.isl (11) n fun (i j : Nat) => Zi (R i j), AV.fn (Fn.func (227 : Nat)) [] [AV.ipt (1) fun (k_1 : Nat) => atL [Zi k] k_1, AV.ipt (1) fun (k : Nat) => atL [Zi e] k, AV.ipt (1) fun (k : Nat) => atL [Zi d] k]]) (Zi (fnI R n k e d)) (.out (Zi (fnI R n k e d)) [] (Zi (fnI R n k e d)) []))
    (by kernel_rfl) ?_
  refine k_sc (c1) ?_
  exact k_out (Ent.refl _)

theorem vrec_c (R : Nat → Nat → Int) (n : Nat) (s : Spend) (hn : n ≤ 1000) : Pure Tryz.prog gl0 105 [rcl n R, s.av] (.tup [(rcX R n s).av, .bool (decide (fnS R n s ≥ 0))]) := by
  have c1 := vfind_c R n s.bank s.epoch s.denom hn
  refine pure_sk (own := ow0) Tryz.func105 (by kernel_rfl) mixed (by kernel_rfl)
    (.sc (true) 182 ([AV.isl (11) n fun (i j : Nat) => Zi (R i j), Zi s.1, Zi s.2, Zi s.3]) (Zi (fnI R n (Spend.bank s) (Spend.epoch s) (Spend.denom s))) (.br (decide (fnI R n s.1 s.2 s.3 < (0 : Int)) || decide (fnI R n s.1 s.2 s.3 ≥ (↑n : Int))) (.out (AV.tup kFV160) [] (AV.tup [Rcd.av (rcX R n s), AV.bool (decide (fnS R n s ≥ (0 : Int)))]) []) (.req ((0 : Int) ≤ fnI R n s.1 s.2 s.3 ∧ fnI R n s.1 s.2 s.3 < (↑n : Int)) (.out (AV.tup [AV.agg [Zi (R (Int.toNat (fnI R n s.1 s.2 s.3)) (0)), Zi (R (Int.toNat (fnI R n s.1 s.2 s.3)) (1)), Zi (R (Int.toNat (fnI R n s.1 s.2 s.3)) (2)), Zi (R (Int.toNat (fnI R n s.1 s.2 s.3)) (3)), Zi (R (Int.toNat (fnI R n s.1 s.2 s.3)) (4)), Zi (R (Int.toNat (fnI R n s.1 s.2 s.3)) (5)), Zi (R (Int.toNat (fnI R n s.1 s.2 s.3)) (6)), Zi (R (Int.toNat (fnI R n s.1 s.2 s.3)) (7)), Zi (R (Int.toNat (fnI R n s.1 s.2 s.3)) (8)), Zi (R (Int.toNat (fnI R n s.1 s.2 s.3)) (9)), Zi (R (Int.toNat (fnI R n s.1 s.2 s.3)) (10))], AV.bool true]) [] (AV.tup [Rcd.av (rcX R n s), AV.bool (decide (fnS R n s ≥ (0 : Int)))]) []))))
    (by kernel_rfl) ?_
  refine k_sc (c1) ?_
  refine k_br (fun h1 => ?_) (fun h1 => ?_)
  · have g1 := (cnd_or_t cnd_dec_t cnd_dec_t) h1
    exact k_out (Ent.of_eq (rec_no (s := s) (by first | exact g1 | (rcases g1 with h | h; (· exact h); (· exfalso; have := firstI_lt (p := fnB R s.bank s.epoch s.denom) n 0; unfold fnI at h; omega)))))
  · have g1 := (cnd_or_f cnd_dec_f cnd_dec_f) h1
    refine k_req (by first | exact fnI_lt g1 | exact fnI_lt g1.1) ?_
    exact k_out (Ent.of_eq (rec_ok (s := s) (by first | exact g1 | exact g1.1)))

theorem vver_c (b : Bas) (R : Nat → Nat → Int) (n : Nat) (s : Spend) (hn : n ≤ 1000) (hw : b.gr.W) (hr : byB s.root 32) (hp : byB s.payee 32) (hf : ∀ k, k < s.np → byB (s.pf k) 32) (hm : s.np ≤ 1000000) (hl : s.nl ≤ 1000) : Pure Tryz.prog gl0 99 [b.av, rcl n R, s.av] (.bool (verd b R n s)) := by
  have c1 := vrec_c R n s hn
  have c2 := vfy_c b (rcX R n s) s hw hr hp hf hm hl
  refine pure_sk (own := ow0) Tryz.func99 (by kernel_rfl) mixed (by kernel_rfl)
    (.sc (true) 105 ([AV.isl (11) n fun (i j : Nat) => Zi (R i j), AV.agg (Spend.cells s)]) (AV.tup [Rcd.av (rcX R n s), AV.bool (decide (fnS R n s ≥ (0 : Int)))]) (.sc (decide (fnS R n s ≥ (0 : Int)) == true) 17 ([AV.agg (Bas.cells b), AV.agg (Rcd.cells (rcX R n s)), AV.agg (Spend.cells s)]) (AV.bool (vfy b (rcX R n s) s)) (.out (AV.bool (decide (fnS R n s ≥ (0 : Int)) && vfy b (rcX R n s) s)) [] (AV.bool (verd b R n s)) [])))
    (by kernel_rfl) ?_
  refine k_sc (c1) ?_
  refine k_scg (fun h1 => c2) ?_
  exact k_out (Ent.refl _)

theorem guilty_c (b : Bas) (s t : Spend) (leaf : Int) (hw : b.gr.W) (hs : s.nl ≤ 1000) (ht : t.nl ≤ 1000) (bs : s.By) (bt : t.By) : Pure Tryz.prog gl0 100 [b.av, s.av, t.av, .int .i64 leaf] (.tup [.int .i64 (glK b s t leaf).1, .int .i64 (glK b s t leaf).2]) := by
  have c1 := secret_c b s t leaf hw hs ht bs bt
  have c2 := fun h hu => message_c b (secR b s t leaf).1 h hw hu
  have c3 := fun h h2 hu => gpow_c b.gr b.g1 (secR b s t leaf).1 h hw h2 hu
  refine pure_sk (own := ow0) Tryz.func100 (by kernel_rfl) mixed (by kernel_rfl)
    (.sc (true) 44 ([AV.agg (Bas.cells b), AV.agg (Spend.cells s), AV.agg (Spend.cells t), Zi leaf]) (AV.tup [Zi (Prod.fst (secR b s t leaf)), Zi (Prod.snd (secR b s t leaf))]) (.br ((secR b s t leaf).2 != (0 : Int)) (.out (AV.tup [Zi 0, Zi (secR b s t leaf).2]) [] (AV.tup [Zi (Prod.fst (glK b s t leaf)), Zi (Prod.snd (glK b s t leaf))]) []) (.sc (((secR b s t leaf).1 == (0 : Int)) == false) 176 ([AV.agg (Bas.cells b), Zi (secR b s t leaf).1]) (Zi (msgI b (Prod.fst (secR b s t leaf)))) (.br ((secR b s t leaf).1 == (0 : Int) || msgI b (secR b s t leaf).1 == (1 : Int)) (.out (AV.tup [Zi 0, Zi 10]) [] (AV.tup [Zi (Prod.fst (glK b s t leaf)), Zi (Prod.snd (glK b s t leaf))]) []) (.sc (true) 48 ([AV.agg [Zi (Bas.gr b).1, Zi (Bas.gr b).2, Zi (Bas.gr b).3], Zi b.2, Zi (secR b s t leaf).1]) (AV.tup [Zi (Bas.g1 b ^ Int.toNat (Prod.fst (secR b s t leaf)) % Grp.p (Bas.gr b)), Zi 0]) (.out (AV.tup [Zi (b.2 ^ Int.toNat (secR b s t leaf).1 % (Bas.gr b).1), Zi 0]) [] (AV.tup [Zi (Prod.fst (glK b s t leaf)), Zi (Prod.snd (glK b s t leaf))]) []))))))
    (by kernel_rfl) ?_
  refine k_sc (c1) ?_
  refine k_br (fun h1 => ?_) (fun h1 => ?_)
  · have g1 := cnd_bne_t h1
    exact k_out (Ent.of_eq (gl_out (x := (0, (secR b s t leaf).2)) (glK_1 g1)))
  · have g1 := cnd_bne_f h1
    refine k_scg (fun h3 => c2 (by first | exact (secR_ok g1).1 | exact (secR_ok g1).2 | exact (secR_ok g1).1.e1 | exact (secR_ok g1).1.G) (by first | exact (secR_ok g1).1 | exact (secR_ok g1).2 | exact (secR_ok g1).1.e1 | exact (secR_ok g1).1.G)) ?_
    refine k_br (fun h4 => ?_) (fun h4 => ?_)
    · have g4 := (cnd_or_t cnd_beq_t cnd_beq_t) h4
      exact k_out (Ent.of_eq (gl_out (glK_2 g1 g4)))
    · have g4 := (cnd_or_f cnd_beq_f cnd_beq_f) h4
      refine k_sc (c3 (by first | exact (secR_ok g1).1 | exact (secR_ok g1).2 | exact (secR_ok g1).1.e1 | exact (secR_ok g1).1.G) (by first | exact (secR_ok g1).1 | exact (secR_ok g1).2 | exact (secR_ok g1).1.e1 | exact (secR_ok g1).1.G) (by first | exact (secR_ok g1).1 | exact (secR_ok g1).2 | exact (secR_ok g1).1.e1 | exact (secR_ok g1).1.G)) ?_
      exact k_out (Ent.of_eq (gl_out (glK_3 g1 g4)))

end Go.Proofs.YtdaaddkipdmajaaGreatDoor

namespace Go.Proofs.YtdaaddkipdmajaaGreatDoor
open Go Go.Am Go.Sp
set_option maxRecDepth 100000

end Go.Proofs.YtdaaddkipdmajaaGreatDoor

namespace Go.Proofs.YtdaaddkipdmajaaGreatDoor
open Go Go.Am Go.Sp
set_option maxRecDepth 100000

end Go.Proofs.YtdaaddkipdmajaaGreatDoor

namespace Go.Sp
open Go Go.Am
def oddB (b : Bas) (s : Spend) (i : Nat) : Bool := !(scB b (s.lf i 1) && scB b (s.lf i 2))
def gul (s t : Spend) (leaf : Int) : AV := .agg (s.cells ++ (t.cells ++ [.int .i64 leaf]))
theorem entL_app {os : List (Option Ob)} : ∀ {a a' b b' : List AV}, EntL os a a' → EntL os b b' → EntL os (a ++ b) (a' ++ b')
  | [], [], _, _, _, h => h
  | _ :: _, _ :: _, _, _, h, h' => ⟨h.1, entL_app h.2 h'⟩
end Go.Sp

namespace Go.Sp
open Go Go.Am
noncomputable def okI (b : Bas) (s t : Spend) (i : Nat) : Bool := (glK b s t ((sharedL s t).getD i 0)).2 == 0
noncomputable def prvI (b : Bas) (s t : Spend) : Int := firstI (okI b s t) (sharedL s t).length 0
noncomputable def prvE (b : Bas) (R : Nat → Nat → Int) (n : Nat) (s t : Spend) : Int :=
  if validB b = false ∨ (okS s = false ∨ okS t = false) then 1 else if ¬ fnS R n s ≥ 0 ∨ ¬ fnS R n t ≥ 0 then 18 else if verd b R n s = false ∨ verd b R n t = false then 11
  else if prvI b s t ≥ 0 then 0 else if (sharedL s t).length = 0 then 7 else if chS b s = chS b t then 20 else 10
noncomputable def prS (b : Bas) (R : Nat → Nat → Int) (n : Nat) (s t : Spend) : Spend := if prvE b R n s t = 0 then s else .zero
noncomputable def prT (b : Bas) (R : Nat → Nat → Int) (n : Nat) (s t : Spend) : Spend := if prvE b R n s t = 0 then t else .zero
noncomputable def prL (b : Bas) (R : Nat → Nat → Int) (n : Nat) (s t : Spend) : Int := if prvE b R n s t = 0 then (sharedL s t).getD (prvI b s t).toNat 0 else 0
noncomputable abbrev prvG (b : Bas) (R : Nat → Nat → Int) (n : Nat) (s t : Spend) : AV := gul (prS b R n s t) (prT b R n s t) (prL b R n s t)
noncomputable abbrev prvV (b : Bas) (R : Nat → Nat → Int) (n : Nat) (s t : Spend) : AV := .tup [prvG b R n s t, .int .i64 (prvE b R n s t)]
theorem prv_e {os : List (Option Ob)} {b : Bas} {R : Nat → Nat → Int} {n : Nat} {s t : Spend} {e : Int} (h : prvE b R n s t = e) (h0 : e ≠ 0) :
    Ent os (.tup [.agg (Spend.zero.cw .nsl .nsl ++ (Spend.zero.cw .nsl .nsl ++ [.int .i64 0])), .int .i64 e]) (prvV b R n s t) := by
  have e2 : prvG b R n s t = gul .zero .zero 0 := by unfold prvG prS prT prL; rw [if_neg (by rw [h]; exact h0), if_neg (by rw [h]; exact h0), if_neg (by rw [h]; exact h0)]
  unfold prvV
  rw [e2, h]
  exact Ent.tup ⟨Ent.agg (entL_app zero_ent (entL_app zero_ent (EntL.refl _))), Ent.refl _, trivial⟩
theorem prv_1 {b : Bas} {R : Nat → Nat → Int} {n : Nat} {s t : Spend} (h : validB b = false ∨ (okS s = false ∨ okS t = false)) : prvE b R n s t = 1 := if_pos h
theorem prv_2 {b : Bas} {R : Nat → Nat → Int} {n : Nat} {s t : Spend} (h : validB b = true ∧ (okS s = true ∧ okS t = true)) (h2 : ¬ fnS R n s ≥ 0 ∨ ¬ fnS R n t ≥ 0) : prvE b R n s t = 18 := by
  unfold prvE; rw [if_neg (by simp [h]), if_pos h2]
theorem prv_3 {b : Bas} {R : Nat → Nat → Int} {n : Nat} {s t : Spend} (h : validB b = true ∧ (okS s = true ∧ okS t = true)) (h2 : fnS R n s ≥ 0 ∧ fnS R n t ≥ 0) (h3 : verd b R n s = false ∨ verd b R n t = false) : prvE b R n s t = 11 := by
  unfold prvE; rw [if_neg (by simp [h]), if_neg (by omega), if_pos h3]
theorem prv_4 {b : Bas} {R : Nat → Nat → Int} {n : Nat} {s t : Spend} (h : validB b = true ∧ (okS s = true ∧ okS t = true)) (h2 : fnS R n s ≥ 0 ∧ fnS R n t ≥ 0) (h3 : verd b R n s = true ∧ verd b R n t = true) :
    prvE b R n s t = if prvI b s t ≥ 0 then 0 else if (sharedL s t).length = 0 then 7 else if chS b s = chS b t then 20 else 10 := by
  unfold prvE; rw [if_neg (by simp [h]), if_neg (by omega), if_neg (by simp [h3])]
theorem prv_ok {b : Bas} {R : Nat → Nat → Int} {n : Nat} {s t : Spend} {i : Nat} (h : validB b = true ∧ (okS s = true ∧ okS t = true)) (h2 : fnS R n s ≥ 0 ∧ fnS R n t ≥ 0) (h3 : verd b R n s = true ∧ verd b R n t = true)
    (hi : i < (sharedL s t).length) (hx : firstI (okI b s t) (sharedL s t).length 0 = firstI (okI b s t) ((sharedL s t).length - i) i) (hk : okI b s t i = true) : AV.tup [gul s t ((sharedL s t).getD i 0), .int .i64 0] = prvV b R n s t := by
  have e : prvI b s t = i := (first_hit hx hi hk).symm
  have e2 : prvE b R n s t = 0 := by rw [prv_4 h h2 h3, if_pos (by omega)]
  unfold prvV prvG prS prT prL
  rw [if_pos e2, if_pos e2, if_pos e2, e2, e, Int.toNat_natCast]
theorem prv_none {b : Bas} {R : Nat → Nat → Int} {n : Nat} {s t : Spend} {i : Nat} (h : validB b = true ∧ (okS s = true ∧ okS t = true)) (h2 : fnS R n s ≥ 0 ∧ fnS R n t ≥ 0) (h3 : verd b R n s = true ∧ verd b R n t = true)
    (hi : (sharedL s t).length ≤ i) (hx : firstI (okI b s t) (sharedL s t).length 0 = firstI (okI b s t) ((sharedL s t).length - i) i) : prvE b R n s t = if (sharedL s t).length = 0 then 7 else if chS b s = chS b t then 20 else 10 := by
  have e : prvI b s t = -1 := (first_miss hx hi).symm
  rw [prv_4 h h2 h3, if_neg (by omega)]
/-- Both are right: what the secret of a shared leaf is. -/
theorem okL_sc {b : Bas} {s : Spend} {i : Nat} (h : okL b s i = true) : scB b (s.lf i 1) = true ∧ scB b (s.lf i 2) = true := by
  unfold okL leafB chk2 at h
  simp only [Bool.and_eq_true] at h
  exact ⟨h.1.2.1.1, h.1.2.1.2⟩
theorem verd_l {b : Bas} {R : Nat → Nat → Int} {n : Nat} {s : Spend} (h : verd b R n s = true) : ∀ i, i < s.nl → okL b s i = true := by
  unfold verd vfy at h
  simp only [Bool.and_eq_true] at h
  have := List.all_eq_true.1 h.2.1.2
  exact fun i hi => this i (List.mem_range.2 hi)
theorem sh_mem {s t : Spend} {leaf : Int} (h : okS s = true) (hm : leaf ∈ sharedL s t) : ¬ (leaf < fromS s ∨ toS s ≤ leaf) := by
  obtain ⟨_, _, _, _, hn⟩ := okS_all h
  unfold sharedL at hm
  split at hm
  · cases hm
  · unfold sharedN at hm
    simp only [List.mem_map, List.mem_filter, List.mem_range] at hm
    obtain ⟨i, ⟨hi, _⟩, rfl⟩ := hm
    omega
theorem sec_sh {b : Bas} {R : Nat → Nat → Int} {n : Nat} {s t : Spend} {leaf : Int} (h3 : verd b R n s = true ∧ verd b R n t = true) (hm : leaf ∈ sharedL s t) (hg : ¬ (glK b s t leaf).2 = 0) : (glK b s t leaf).2 = if chS b s = chS b t then 20 else 10 := by
  have a := vd_ok h3.1
  have c := vd_ok h3.2
  have hr := sh_mem a.2 hm
  have hf := (shared_has a.2 hr).1 hm
  obtain ⟨_, _, _, _, hn⟩ := okS_all a.2
  have hi : leafN s leaf < s.nl := by unfold leafN; omega
  have s1 := okL_sc (verd_l h3.1 _ hi)
  have s2 := okL_sc (verd_l h3.2 _ (mate_lt hf.2).1)
  have e : secR b s t leaf = if chS b s = chS b t then (0, 20)
      else if s.lf (leafN s leaf) 2 = t.lf (mateS s t (leafN s leaf)) 2 then (0, 10)
      else ((s.lf (leafN s leaf) 1 - t.lf (mateS s t (leafN s leaf)) 1) % b.gr.q * invF ((s.lf (leafN s leaf) 2 - t.lf (mateS s t (leafN s leaf)) 2) % b.gr.q) b.gr.q % b.gr.q, 0) := by
    unfold secR
    rw [if_neg (by simp [a, c]), if_neg hr, if_neg (by simp [hf]), if_neg (by simp [s1, s2])]
  by_cases h1 : chS b s = chS b t
  · rw [if_pos h1] at e
    rw [if_pos h1, glK_1 (by rw [e]; decide), e]
  · rw [if_neg h1] at e
    rw [if_neg h1]
    by_cases h2 : s.lf (leafN s leaf) 2 = t.lf (mateS s t (leafN s leaf)) 2
    · rw [if_pos h2] at e
      rw [glK_1 (by rw [e]; decide), e]
    · rw [if_neg h2] at e
      have e0 : (secR b s t leaf).2 = 0 := by rw [e]
      by_cases h4 : (secR b s t leaf).1 = 0 ∨ msgI b (secR b s t leaf).1 = 1
      · rw [glK_2 e0 h4]
      · exact absurd (by rw [glK_3 e0 (by simpa using h4)]) hg
/-- The error behind so many leaves. -/
noncomputable def erA (b : Bas) (s t : Spend) : Nat → Int
  | 0 => 7
  | x + 1 => (glK b s t ((sharedL s t).getD x 0)).2
theorem er_end {b : Bas} {R : Nat → Nat → Int} {n : Nat} {s t : Spend} (h3 : verd b R n s = true ∧ verd b R n t = true) (hx : ∀ i, i < (sharedL s t).length → okI b s t i = false) :
    erA b s t (sharedL s t).length = if (sharedL s t).length = 0 then 7 else if chS b s = chS b t then 20 else 10 := by
  generalize hl : (sharedL s t).length = k
  cases k with
  | zero => rfl
  | succ x =>
    rw [if_neg (by omega)]
    have hm : (sharedL s t).getD x 0 ∈ sharedL s t := by
      have hx : x < (sharedL s t).length := by omega
      rw [List.getD_eq_getElem?_getD, List.getElem?_eq_getElem hx]
      exact List.getElem_mem hx
    have hk := hx x (by omega)
    unfold okI at hk
    exact sec_sh h3 hm (by simpa using hk)
end Go.Sp

namespace Go.Proofs.YtdaaddkipdmajaaGreatDoor
open Go Go.Am Go.Sp
set_option maxRecDepth 100000

end Go.Proofs.YtdaaddkipdmajaaGreatDoor

namespace Go.Sp
open Go Go.Am
structure ClOk (b : Bas) (s : Spend) (u : Int) : Prop where
  v : validB b = true
  ok : okS s = true
  odd : ¬ firstI (oddB b s) s.nl 0 ≥ 0
  u : 0 ≤ u ∧ u < b.gr.q
  n : s.number < 1073741824
theorem sec_ne {b : Bas} {s t : Spend} {l : Int} (h : (secR b s t l).2 = 0) : ¬ chS b s = chS b t := by
  unfold secR at h
  intro e
  split at h
  · cases h
  split at h
  · cases h
  split at h
  · cases h
  split at h
  · cases h
  first | cases h | (rw [if_pos e] at h; cases h)
end Go.Sp

namespace Go.Sp
open Go Go.Am
theorem okI_ne {b : Bas} {s t : Spend} {i : Nat} (h : okI b s t i = true) : ¬ chS b s = chS b t := by
  unfold okI at h
  have h := beq_iff_eq.1 h
  by_cases e : (secR b s t ((sharedL s t).getD i 0)).2 = 0
  · exact sec_ne e
  · rw [glK_1 e] at h; exact absurd h e
theorem prvE_0 {b : Bas} {R : Nat → Nat → Int} {n : Nat} {s t : Spend} (h : prvE b R n s t = 0) : ∃ i, i < (sharedL s t).length ∧ okI b s t i = true := by
  unfold prvE at h
  split at h
  · exact absurd h (by decide)
  split at h
  · exact absurd h (by decide)
  split at h
  · exact absurd h (by decide)
  split at h
  · rename_i hp
    have hp := decide_eq_true hp
    unfold prvI at hp
    rw [firstI_neg] at hp
    simpa using hp
  split at h
  · exact absurd h (by decide)
  split at h
  · exact absurd h (by decide)
  · exact absurd h (by decide)
theorem prv_self {b : Bas} {R : Nat → Nat → Int} {n : Nat} {s : Spend} : ¬ prvE b R n s s = 0 := fun h => by
  obtain ⟨i, _, h⟩ := prvE_0 h
  exact okI_ne h rfl
theorem prv_far {b : Bas} {R : Nat → Nat → Int} {n : Nat} {s t : Spend} (hA : ¬ s.a = t.a) : ¬ prvE b R n s t = 0 := fun h => by
  obtain ⟨i, hi, _⟩ := prvE_0 h
  unfold sharedL at hi
  rw [if_pos hA] at hi
  exact absurd hi (Nat.not_lt_zero _)
theorem prS_no {b : Bas} {R : Nat → Nat → Int} {n : Nat} {s t : Spend} (h : ¬ prvE b R n s t = 0) : prS b R n s t = .zero := if_neg h
theorem sharedL_far {s t : Spend} (hA : ¬ s.a = t.a) : sharedL s t = [] := if_pos hA
theorem sec_self {b : Bas} {s : Spend} {l : Int} (hv : validB b = true) (ok : okS s = true) (h : fromS s ≤ l ∧ l < toS s) : secR b s s l = (0, 20) ∨ secR b s s l = (0, 2) := by
  have hf : found s (s.lf (leafN s l) 0) = true := by
    obtain ⟨_, _, _, _, hn⟩ := okS_all ok
    unfold found
    refine decide_eq_true ?_
    have := firstI_m (p := fun k => s.lf k 0 == s.lf (leafN s l) 0) s.nl 0
    refine Int.not_lt.1 fun hh => ?_
    have := this hh (leafN s l) (by unfold leafN; omega)
    simp at this
  unfold secR
  rw [if_neg (by simp [hv, ok]), if_neg (by omega), if_neg (by simp [hf])]
  split
  · exact .inr rfl
  · rw [if_pos rfl]; exact .inl rfl
end Go.Sp

namespace Go.Sp
open Go Go.Am
theorem prS_far {b : Bas} {R : Nat → Nat → Int} {n : Nat} {s t : Spend} (hA : ¬ s.a = t.a) : (prS b R n s t).nl = 0 := by
  rw [prS_no (prv_far hA)]; rfl
theorem shared_far {s t : Spend} (h : okS s = true ∧ okS t = true) (hA : ¬ s.a = t.a) : (bif okS s && okS t then sharedL s t else []) = [] ∧ (bif okS s && okS t then (0 : Int) else 1) = 0 := by
  rw [h.1, h.2, sharedL_far hA]; exact ⟨rfl, rfl⟩
theorem sec_st {b : Bas} {s : Spend} {l : Int} (hv : validB b = true) (ok : okS s = true) (h : fromS s ≤ l ∧ l < toS s) : ((secR b s s l).2 = 20 ∨ (secR b s s l).2 = 2) ∧ (secR b s s l).1 = 0 := by
  rcases sec_self hv ok h with e | e <;> rw [e] <;> simp
theorem okI_t {b : Bas} {s t : Spend} {i : Nat} (h : (glK b s t ((sharedL s t).getD i 0)).2 = 0) : okI b s t i = true := by unfold okI; rw [h]; rfl
theorem okI_f {b : Bas} {s t : Spend} {i : Nat} (h : ¬ (glK b s t ((sharedL s t).getD i 0)).2 = 0) : okI b s t i = false := by unfold okI; simpa using h
theorem firstI_all {p : Nat → Bool} {n i : Nat} (hx : firstI p n 0 = firstI p (n - i) i) (h : n ≤ i) : ∀ j, j < n → p j = false := fun j hj => by
  have e : -1 = firstI p n 0 := first_miss hx h
  cases hp : p j with
  | false => rfl
  | true =>
    have hn : decide (firstI p n 0 ≥ 0) = true := by
      rw [firstI_neg]
      exact List.any_eq_true.2 ⟨j, List.mem_range.2 hj, by rw [Nat.zero_add]; exact hp⟩
    have := of_decide_eq_true hn
    omega
theorem prv_end {os : List (Option Ob)} {b : Bas} {R : Nat → Nat → Int} {n : Nat} {s t : Spend} {i : Nat} (h : validB b = true ∧ (okS s = true ∧ okS t = true)) (h2 : fnS R n s ≥ 0 ∧ fnS R n t ≥ 0) (h3 : verd b R n s = true ∧ verd b R n t = true)
    (hx : firstI (okI b s t) (sharedL s t).length 0 = firstI (okI b s t) ((sharedL s t).length - i) i) (hi : i = (sharedL s t).length) :
    Ent os (.tup [.agg (Spend.zero.cw .nsl .nsl ++ (Spend.zero.cw .nsl .nsl ++ [.int .i64 0])), .int .i64 (erA b s t i)]) (prvV b R n s t) := by
  have e := er_end (b := b) (R := R) (n := n) h3 (firstI_all hx (by omega))
  have e2 := prv_none h h2 h3 (by omega) hx
  rw [← hi] at e
  refine prv_e (by rw [e2, e, hi]) ?_
  rw [e]
  split
  · decide
  · split <;> decide
theorem shared_le (s t : Spend) : (sharedL s t).length ≤ s.nl := by
  unfold sharedL
  split
  · exact Nat.zero_le _
  · unfold sharedN
    rw [List.length_map]
    exact Nat.le_trans (List.length_filter_le _ _) (by rw [List.length_range]; exact Nat.le_refl _)
theorem spanZ_b {d l i : Int} (hn : nodeB d l i = true) : spanZ d l i ≤ 1056 := by
  obtain ⟨h1, h2, h3, h4, h5, h6⟩ := node_t hn
  have a := p2 (k := l) (by omega) (by omega)
  have c := p2 (k := d - l) (by omega) (by omega)
  have k := bnd h5 h6 a.2.2.2 c.2.2.1 c.2.2.2
  unfold spanZ
  rw [if_pos hn]
  exact k.2.2.2
end Go.Sp

namespace Go.Proofs.YtdaaddkipdmajaaGreatDoor
open Go Go.Am Go.Sp
set_option maxRecDepth 100000

abbrev kFW20 : List AV := [AV.agg [Zi 0, Zi 0, Zi 0, Zi 0, Zi 0, Zb 0, Zb 0, Zb 0, Zb 0, Zb 0, Zb 0, Zb 0, Zb 0, Zb 0, Zb 0, Zb 0, Zb 0, Zb 0, Zb 0, Zb 0, Zb 0, Zb 0, Zb 0, Zb 0, Zb 0, Zb 0, Zb 0, Zb 0, Zb 0, Zb 0, Zb 0, Zb 0, Zb 0, Zb 0, Zb 0, Zb 0, Zb 0, Zi 0, Zi 0, Zi 0, Zi 0, Zi 0, Zi 0, Zb 0, Zb 0, Zb 0, Zb 0, Zb 0, Zb 0, Zb 0, Zb 0, Zb 0, Zb 0, Zb 0, Zb 0, Zb 0, Zb 0, Zb 0, Zb 0, Zb 0, Zb 0, Zb 0, Zb 0, Zb 0, Zb 0, Zb 0, Zb 0, Zb 0, Zb 0, Zb 0, Zb 0, Zb 0, Zb 0, Zb 0, Zb 0, Zi 0, Zi 0, AV.nsl, Zi 0, AV.nsl, Zi 0, Zi 0, Zi 0, Zi 0, Zi 0, Zb 0, Zb 0, Zb 0, Zb 0, Zb 0, Zb 0, Zb 0, Zb 0, Zb 0, Zb 0, Zb 0, Zb 0, Zb 0, Zb 0, Zb 0, Zb 0, Zb 0, Zb 0, Zb 0, Zb 0, Zb 0, Zb 0, Zb 0, Zb 0, Zb 0, Zb 0, Zb 0, Zb 0, Zb 0, Zb 0, Zb 0, Zb 0, Zi 0, Zi 0, Zi 0, Zi 0, Zi 0, Zi 0, Zb 0, Zb 0, Zb 0, Zb 0, Zb 0, Zb 0, Zb 0, Zb 0, Zb 0, Zb 0, Zb 0, Zb 0, Zb 0, Zb 0, Zb 0, Zb 0, Zb 0, Zb 0, Zb 0, Zb 0, Zb 0, Zb 0, Zb 0, Zb 0, Zb 0, Zb 0, Zb 0, Zb 0, Zb 0, Zb 0, Zb 0, Zb 0, Zi 0, Zi 0, AV.nsl, Zi 0, AV.nsl, Zi 0], Zi 18]
abbrev kFW21 : List AV := [AV.agg [Zi 0, Zi 0, Zi 0, Zi 0, Zi 0, Zb 0, Zb 0, Zb 0, Zb 0, Zb 0, Zb 0, Zb 0, Zb 0, Zb 0, Zb 0, Zb 0, Zb 0, Zb 0, Zb 0, Zb 0, Zb 0, Zb 0, Zb 0, Zb 0, Zb 0, Zb 0, Zb 0, Zb 0, Zb 0, Zb 0, Zb 0, Zb 0, Zb 0, Zb 0, Zb 0, Zb 0, Zb 0, Zi 0, Zi 0, Zi 0, Zi 0, Zi 0, Zi 0, Zb 0, Zb 0, Zb 0, Zb 0, Zb 0, Zb 0, Zb 0, Zb 0, Zb 0, Zb 0, Zb 0, Zb 0, Zb 0, Zb 0, Zb 0, Zb 0, Zb 0, Zb 0, Zb 0, Zb 0, Zb 0, Zb 0, Zb 0, Zb 0, Zb 0, Zb 0, Zb 0, Zb 0, Zb 0, Zb 0, Zb 0, Zb 0, Zi 0, Zi 0, AV.nsl, Zi 0, AV.nsl, Zi 0, Zi 0, Zi 0, Zi 0, Zi 0, Zb 0, Zb 0, Zb 0, Zb 0, Zb 0, Zb 0, Zb 0, Zb 0, Zb 0, Zb 0, Zb 0, Zb 0, Zb 0, Zb 0, Zb 0, Zb 0, Zb 0, Zb 0, Zb 0, Zb 0, Zb 0, Zb 0, Zb 0, Zb 0, Zb 0, Zb 0, Zb 0, Zb 0, Zb 0, Zb 0, Zb 0, Zb 0, Zi 0, Zi 0, Zi 0, Zi 0, Zi 0, Zi 0, Zb 0, Zb 0, Zb 0, Zb 0, Zb 0, Zb 0, Zb 0, Zb 0, Zb 0, Zb 0, Zb 0, Zb 0, Zb 0, Zb 0, Zb 0, Zb 0, Zb 0, Zb 0, Zb 0, Zb 0, Zb 0, Zb 0, Zb 0, Zb 0, Zb 0, Zb 0, Zb 0, Zb 0, Zb 0, Zb 0, Zb 0, Zb 0, Zi 0, Zi 0, AV.nsl, Zi 0, AV.nsl, Zi 0], Zi 11]
abbrev kFW22 : List AV := [AV.agg [Zi 0, Zi 0, Zi 0, Zi 0, Zi 0, Zb 0, Zb 0, Zb 0, Zb 0, Zb 0, Zb 0, Zb 0, Zb 0, Zb 0, Zb 0, Zb 0, Zb 0, Zb 0, Zb 0, Zb 0, Zb 0, Zb 0, Zb 0, Zb 0, Zb 0, Zb 0, Zb 0, Zb 0, Zb 0, Zb 0, Zb 0, Zb 0, Zb 0, Zb 0, Zb 0, Zb 0, Zb 0, Zi 0, Zi 0, Zi 0, Zi 0, Zi 0, Zi 0, Zb 0, Zb 0, Zb 0, Zb 0, Zb 0, Zb 0, Zb 0, Zb 0, Zb 0, Zb 0, Zb 0, Zb 0, Zb 0, Zb 0, Zb 0, Zb 0, Zb 0, Zb 0, Zb 0, Zb 0, Zb 0, Zb 0, Zb 0, Zb 0, Zb 0, Zb 0, Zb 0, Zb 0, Zb 0, Zb 0, Zb 0, Zb 0, Zi 0, Zi 0, AV.nsl, Zi 0, AV.nsl, Zi 0, Zi 0, Zi 0, Zi 0, Zi 0, Zb 0, Zb 0, Zb 0, Zb 0, Zb 0, Zb 0, Zb 0, Zb 0, Zb 0, Zb 0, Zb 0, Zb 0, Zb 0, Zb 0, Zb 0, Zb 0, Zb 0, Zb 0, Zb 0, Zb 0, Zb 0, Zb 0, Zb 0, Zb 0, Zb 0, Zb 0, Zb 0, Zb 0, Zb 0, Zb 0, Zb 0, Zb 0, Zi 0, Zi 0, Zi 0, Zi 0, Zi 0, Zi 0, Zb 0, Zb 0, Zb 0, Zb 0, Zb 0, Zb 0, Zb 0, Zb 0, Zb 0, Zb 0, Zb 0, Zb 0, Zb 0, Zb 0, Zb 0, Zb 0, Zb 0, Zb 0, Zb 0, Zb 0, Zb 0, Zb 0, Zb 0, Zb 0, Zb 0, Zb 0, Zb 0, Zb 0, Zb 0, Zb 0, Zb 0, Zb 0, Zi 0, Zi 0, AV.nsl, Zi 0, AV.nsl, Zi 0], Zi 1]
theorem prove_c (b : Bas) (R : Nat → Nat → Int) (n : Nat) (s t : Spend) (hn : n ≤ 1000) (hw : b.gr.W) (hs : s.nl ≤ 1000) (ht : t.nl ≤ 1000) (bs : s.By) (bt : t.By) (ps : s.np ≤ 1000000) (pt : t.np ≤ 1000000) (fs : ∀ k, k < s.np → byB (s.pf k) 32) (ft : ∀ k, k < t.np → byB (t.pf k) 32) :
    Pure Tryz.prog gl0 39 [b.av, rcl n R, s.av, t.av] (prvV b R n s t) := by
  have L := shared_le s t
  have c0 := bvalid_c b hw
  have c1 := formed2_c s t
  have c2 := vrec_c R n s hn
  have c3 := vrec_c R n t hn
  have c4 := vver_c b R n s hn hw bs.root bs.payee fs ps hs
  have c5 := vver_c b R n t hn hw bt.root bt.payee ft pt ht
  have c6 := shared_c s t hs ht
  have c7 := fun leaf => guilty_c b s t leaf hw hs ht bs bt
  refine pure_sk (own := ow0) Tryz.func39 (by kernel_rfl) mixed (by kernel_rfl)
    (.sc (true) 105 ([AV.isl (11) n fun (i j : Nat) => Zi (R i j), AV.agg (Spend.cells s)]) (AV.tup [Rcd.av (rcX R n s), AV.bool (decide (fnS R n s ≥ (0 : Int)))]) (.sc (true) 105 ([AV.isl (11) n fun (i j : Nat) => Zi (R i j), AV.agg (Spend.cells t)]) (AV.tup [Rcd.av (rcX R n t), AV.bool (decide (fnS R n t ≥ (0 : Int)))]) (.sc (true) 52 ([AV.agg (Bas.cells b)]) (AV.bool (validB b)) (.sc ((!validB b) == false) 98 ([AV.isl (80) (2) fun (r k : Nat) => atL (List.getD [Spend.cells s, Spend.cells t] (r + 0) []) k]) (AV.bool (okS s && okS t)) (.br (!validB b || !(okS s && okS t)) (.out (AV.tup kFW22) [] (prvV b R n s t) []) (.br (!decide (fnS R n s ≥ (0 : Int)) || !decide (fnS R n t ≥ (0 : Int))) (.out (AV.tup kFW20) [] (prvV b R n s t) []) (.sc (true) 99 ([AV.agg (Bas.cells b), AV.isl (11) n fun (i j : Nat) => Zi (R i j), AV.agg (Spend.cells s)]) (AV.bool (verd b R n s)) (.sc ((!verd b R n s) == false) 99 ([AV.agg (Bas.cells b), AV.isl (11) n fun (i j : Nat) => Zi (R i j), AV.agg (Spend.cells t)]) (AV.bool (verd b R n t)) (.br (!verd b R n s || !verd b R n t) (.out (AV.tup kFW21) [] (prvV b R n s t) []) (.dc (true) 106 ([AV.agg (Spend.cells s), AV.agg (Spend.cells t)]) (il IntKind.i64 (sharedL s t)) (.loop ({ x : Nat // x ≤ List.length (sharedL s t) ∧ (fun (i : Nat) => firstI (okI b s t) (List.length (sharedL s t)) (0 : Nat) = firstI (okI b s t) (List.length (sharedL s t) - i) i) x }) (fun (x : { x : Nat // x ≤ List.length (sharedL s t) ∧ (fun (i : Nat) => firstI (okI b s t) (List.length (sharedL s t)) (0 : Nat) = firstI (okI b s t) (List.length (sharedL s t) - i) i) x }) => mkSt [4, 6, 7, 8, 65, 66, 14, 67] [AV.own (0) (6) (0) (0) (6), AV.own (1) (80) (0) (0) (80), AV.own (2) (80) (0) (0) (80), AV.own (3) (161) (0) (0) (161), AV.isl (1) (List.length (sharedL s t)) fun (i x : Nat) => Zi (List.getD (sharedL s t) i (0 : Int)), Zi (↑(List.length (sharedL s t)) : Int), Zi (erA b s t (x.1)), Zi (↑(x.1) : Int)] [some { es := 6, n := 1, mu := true, f := Rep.lst [Bas.cells b] }, some { es := 80, n := 1, mu := true, f := Rep.lst [Spend.cells s] }, some { es := 80, n := 1, mu := true, f := Rep.lst [Spend.cells t] }, some { es := 161, n := 1, mu := true, f := Rep.lst [[Zi 0, Zi 0, Zi 0, Zi 0, Zi 0, Zb 0, Zb 0, Zb 0, Zb 0, Zb 0, Zb 0, Zb 0, Zb 0, Zb 0, Zb 0, Zb 0, Zb 0, Zb 0, Zb 0, Zb 0, Zb 0, Zb 0, Zb 0, Zb 0, Zb 0, Zb 0, Zb 0, Zb 0, Zb 0, Zb 0, Zb 0, Zb 0, Zb 0, Zb 0, Zb 0, Zb 0, Zb 0, Zi 0, Zi 0, Zi 0, Zi 0, Zi 0, Zi 0, Zb 0, Zb 0, Zb 0, Zb 0, Zb 0, Zb 0, Zb 0, Zb 0, Zb 0, Zb 0, Zb 0, Zb 0, Zb 0, Zb 0, Zb 0, Zb 0, Zb 0, Zb 0, Zb 0, Zb 0, Zb 0, Zb 0, Zb 0, Zb 0, Zb 0, Zb 0, Zb 0, Zb 0, Zb 0, Zb 0, Zb 0, Zb 0, Zi 0, Zi 0, AV.nsl, Zi 0, AV.nsl, Zi 0, Zi 0, Zi 0, Zi 0, Zi 0, Zb 0, Zb 0, Zb 0, Zb 0, Zb 0, Zb 0, Zb 0, Zb 0, Zb 0, Zb 0, Zb 0, Zb 0, Zb 0, Zb 0, Zb 0, Zb 0, Zb 0, Zb 0, Zb 0, Zb 0, Zb 0, Zb 0, Zb 0, Zb 0, Zb 0, Zb 0, Zb 0, Zb 0, Zb 0, Zb 0, Zb 0, Zb 0, Zi 0, Zi 0, Zi 0, Zi 0, Zi 0, Zi 0, Zb 0, Zb 0, Zb 0, Zb 0, Zb 0, Zb 0, Zb 0, Zb 0, Zb 0, Zb 0, Zb 0, Zb 0, Zb 0, Zb 0, Zb 0, Zb 0, Zb 0, Zb 0, Zb 0, Zb 0, Zb 0, Zb 0, Zb 0, Zb 0, Zb 0, Zb 0, Zb 0, Zb 0, Zb 0, Zb 0, Zb 0, Zb 0, Zi 0, Zi 0, AV.nsl, Zi 0, AV.nsl, Zi 0]] }]) (fun (x : { x : Nat // x ≤ List.length (sharedL s t) ∧ (fun (i : Nat) => firstI (okI b s t) (List.length (sharedL s t)) (0 : Nat) = firstI (okI b s t) (List.length (sharedL s t) - i) i) x }) => List.length (sharedL s t) - x.1) (⟨(0 : Nat), ⟨Nat.zero_le (List.length (sharedL s t)), rfl⟩⟩) ([4, 6, 7, 8, 65, 66, 14, 67]) ([0, 8, 16, 24]) ([AV.own (0) (6) (0) (0) (6), AV.own (1) (80) (0) (0) (80), AV.own (2) (80) (0) (0) (80), AV.own (3) (161) (0) (0) (161), AV.isl (1) (List.length (sharedL s t)) fun (i x : Nat) => Zi (List.getD (sharedL s t) i (0 : Int)), Zi (↑(List.length (sharedL s t)) : Int), Zi 7, Zi 0]) ([some { es := 6, n := 1, mu := true, f := Rep.lst [Bas.cells b] }, some { es := 80, n := 1, mu := true, f := Rep.lst [Spend.cells s] }, some { es := 80, n := 1, mu := true, f := Rep.lst [Spend.cells t] }, some { es := 161, n := 1, mu := true, f := Rep.lst [[Zi 0, Zi 0, Zi 0, Zi 0, Zi 0, Zb 0, Zb 0, Zb 0, Zb 0, Zb 0, Zb 0, Zb 0, Zb 0, Zb 0, Zb 0, Zb 0, Zb 0, Zb 0, Zb 0, Zb 0, Zb 0, Zb 0, Zb 0, Zb 0, Zb 0, Zb 0, Zb 0, Zb 0, Zb 0, Zb 0, Zb 0, Zb 0, Zb 0, Zb 0, Zb 0, Zb 0, Zb 0, Zi 0, Zi 0, Zi 0, Zi 0, Zi 0, Zi 0, Zb 0, Zb 0, Zb 0, Zb 0, Zb 0, Zb 0, Zb 0, Zb 0, Zb 0, Zb 0, Zb 0, Zb 0, Zb 0, Zb 0, Zb 0, Zb 0, Zb 0, Zb 0, Zb 0, Zb 0, Zb 0, Zb 0, Zb 0, Zb 0, Zb 0, Zb 0, Zb 0, Zb 0, Zb 0, Zb 0, Zb 0, Zb 0, Zi 0, Zi 0, AV.nsl, Zi 0, AV.nsl, Zi 0, Zi 0, Zi 0, Zi 0, Zi 0, Zb 0, Zb 0, Zb 0, Zb 0, Zb 0, Zb 0, Zb 0, Zb 0, Zb 0, Zb 0, Zb 0, Zb 0, Zb 0, Zb 0, Zb 0, Zb 0, Zb 0, Zb 0, Zb 0, Zb 0, Zb 0, Zb 0, Zb 0, Zb 0, Zb 0, Zb 0, Zb 0, Zb 0, Zb 0, Zb 0, Zb 0, Zb 0, Zi 0, Zi 0, Zi 0, Zi 0, Zi 0, Zi 0, Zb 0, Zb 0, Zb 0, Zb 0, Zb 0, Zb 0, Zb 0, Zb 0, Zb 0, Zb 0, Zb 0, Zb 0, Zb 0, Zb 0, Zb 0, Zb 0, Zb 0, Zb 0, Zb 0, Zb 0, Zb 0, Zb 0, Zb 0, Zb 0, Zb 0, Zb 0, Zb 0, Zb 0, Zb 0, Zb 0, Zb 0, Zb 0, Zi 0, Zi 0, AV.nsl, Zi 0, AV.nsl, Zi 0]] }]) (fun x13 => (.br (decide ((↑x13.1 : Int) < (↑(List.length (sharedL s t)) : Int))) (.req ((0 : Int) ≤ (↑x13.1 : Int) ∧ (↑x13.1 : Int) < (↑(List.length (sharedL s t)) : Int)) (.sc (true) 100 ([AV.agg (Bas.cells b), AV.agg (Spend.cells s), AV.agg (Spend.cells t), Zi (List.getD (sharedL s t) (Int.toNat (↑x13.1 : Int)) (0 : Int))]) (AV.tup [Zi (Prod.fst (glK b s t (List.getD (sharedL s t) (Int.toNat (↑x13.1 : Int)) (0 : Int)))), Zi (Prod.snd (glK b s t (List.getD (sharedL s t) (Int.toNat (↑x13.1 : Int)) (0 : Int))))]) (.br ((glK b s t (List.getD (sharedL s t) (Int.toNat (↑x13.1 : Int)) (0 : Int))).2 == (0 : Int)) (.out (AV.tup [AV.agg (Spend.cells s ++ (Spend.cells t ++ [Zi (List.getD (sharedL s t) (Int.toNat (↑x13.1 : Int)) (0 : Int))])), Zi 0]) [] (prvV b R n s t) []) (.again (Again (0) (fun (x : { x : Nat // x ≤ List.length (sharedL s t) ∧ (fun (i : Nat) => firstI (okI b s t) (List.length (sharedL s t)) (0 : Nat) = firstI (okI b s t) (List.length (sharedL s t) - i) i) x }) => mkSt [4, 6, 7, 8, 65, 66, 14, 67] [AV.own (0) (6) (0) (0) (6), AV.own (1) (80) (0) (0) (80), AV.own (2) (80) (0) (0) (80), AV.own (3) (161) (0) (0) (161), AV.isl (1) (List.length (sharedL s t)) fun (i x : Nat) => Zi (List.getD (sharedL s t) i (0 : Int)), Zi (↑(List.length (sharedL s t)) : Int), Zi (erA b s t (x.1)), Zi (↑(x.1) : Int)] [some { es := 6, n := 1, mu := true, f := Rep.lst [Bas.cells b] }, some { es := 80, n := 1, mu := true, f := Rep.lst [Spend.cells s] }, some { es := 80, n := 1, mu := true, f := Rep.lst [Spend.cells t] }, some { es := 161, n := 1, mu := true, f := Rep.lst [[Zi 0, Zi 0, Zi 0, Zi 0, Zi 0, Zb 0, Zb 0, Zb 0, Zb 0, Zb 0, Zb 0, Zb 0, Zb 0, Zb 0, Zb 0, Zb 0, Zb 0, Zb 0, Zb 0, Zb 0, Zb 0, Zb 0, Zb 0, Zb 0, Zb 0, Zb 0, Zb 0, Zb 0, Zb 0, Zb 0, Zb 0, Zb 0, Zb 0, Zb 0, Zb 0, Zb 0, Zb 0, Zi 0, Zi 0, Zi 0, Zi 0, Zi 0, Zi 0, Zb 0, Zb 0, Zb 0, Zb 0, Zb 0, Zb 0, Zb 0, Zb 0, Zb 0, Zb 0, Zb 0, Zb 0, Zb 0, Zb 0, Zb 0, Zb 0, Zb 0, Zb 0, Zb 0, Zb 0, Zb 0, Zb 0, Zb 0, Zb 0, Zb 0, Zb 0, Zb 0, Zb 0, Zb 0, Zb 0, Zb 0, Zb 0, Zi 0, Zi 0, AV.nsl, Zi 0, AV.nsl, Zi 0, Zi 0, Zi 0, Zi 0, Zi 0, Zb 0, Zb 0, Zb 0, Zb 0, Zb 0, Zb 0, Zb 0, Zb 0, Zb 0, Zb 0, Zb 0, Zb 0, Zb 0, Zb 0, Zb 0, Zb 0, Zb 0, Zb 0, Zb 0, Zb 0, Zb 0, Zb 0, Zb 0, Zb 0, Zb 0, Zb 0, Zb 0, Zb 0, Zb 0, Zb 0, Zb 0, Zb 0, Zi 0, Zi 0, Zi 0, Zi 0, Zi 0, Zi 0, Zb 0, Zb 0, Zb 0, Zb 0, Zb 0, Zb 0, Zb 0, Zb 0, Zb 0, Zb 0, Zb 0, Zb 0, Zb 0, Zb 0, Zb 0, Zb 0, Zb 0, Zb 0, Zb 0, Zb 0, Zb 0, Zb 0, Zb 0, Zb 0, Zb 0, Zb 0, Zb 0, Zb 0, Zb 0, Zb 0, Zb 0, Zb 0, Zi 0, Zi 0, AV.nsl, Zi 0, AV.nsl, Zi 0]] }]) (fun (x : { x : Nat // x ≤ List.length (sharedL s t) ∧ (fun (i : Nat) => firstI (okI b s t) (List.length (sharedL s t)) (0 : Nat) = firstI (okI b s t) (List.length (sharedL s t) - i) i) x }) => List.length (sharedL s t) - x.1) x13) ([4, 6, 7, 8, 65, 66, 14, 67]) ([0, 1, 2, 3]) ([AV.own (0) (6) (0) (0) (6), AV.own (1) (80) (0) (0) (80), AV.own (2) (80) (0) (0) (80), AV.own (3) (161) (0) (0) (161), AV.isl (1) (List.length (sharedL s t)) fun (i x : Nat) => Zi (List.getD (sharedL s t) i (0 : Int)), Zi (↑(List.length (sharedL s t)) : Int), Zi (glK b s t (List.getD (sharedL s t) (Int.toNat (↑x13.1 : Int)) (0 : Int))).2, Zi (IntKind.wrap IntKind.i64 ((↑x13.1 : Int) + (1 : Int)))]) ([some { es := 6, n := 1, mu := true, f := Rep.lst [Bas.cells b] }, some { es := 80, n := 1, mu := true, f := Rep.lst [Spend.cells s] }, some { es := 80, n := 1, mu := true, f := Rep.lst [Spend.cells t] }, some { es := 161, n := 1, mu := true, f := Rep.lst [[Zi 0, Zi 0, Zi 0, Zi 0, Zi 0, Zb 0, Zb 0, Zb 0, Zb 0, Zb 0, Zb 0, Zb 0, Zb 0, Zb 0, Zb 0, Zb 0, Zb 0, Zb 0, Zb 0, Zb 0, Zb 0, Zb 0, Zb 0, Zb 0, Zb 0, Zb 0, Zb 0, Zb 0, Zb 0, Zb 0, Zb 0, Zb 0, Zb 0, Zb 0, Zb 0, Zb 0, Zb 0, Zi 0, Zi 0, Zi 0, Zi 0, Zi 0, Zi 0, Zb 0, Zb 0, Zb 0, Zb 0, Zb 0, Zb 0, Zb 0, Zb 0, Zb 0, Zb 0, Zb 0, Zb 0, Zb 0, Zb 0, Zb 0, Zb 0, Zb 0, Zb 0, Zb 0, Zb 0, Zb 0, Zb 0, Zb 0, Zb 0, Zb 0, Zb 0, Zb 0, Zb 0, Zb 0, Zb 0, Zb 0, Zb 0, Zi 0, Zi 0, AV.nsl, Zi 0, AV.nsl, Zi 0, Zi 0, Zi 0, Zi 0, Zi 0, Zb 0, Zb 0, Zb 0, Zb 0, Zb 0, Zb 0, Zb 0, Zb 0, Zb 0, Zb 0, Zb 0, Zb 0, Zb 0, Zb 0, Zb 0, Zb 0, Zb 0, Zb 0, Zb 0, Zb 0, Zb 0, Zb 0, Zb 0, Zb 0, Zb 0, Zb 0, Zb 0, Zb 0, Zb 0, Zb 0, Zb 0, Zb 0, Zi 0, Zi 0, Zi 0, Zi 0, Zi 0, Zi 0, Zb 0, Zb 0, Zb 0, Zb 0, Zb 0, Zb 0, Zb 0, Zb 0, Zb 0, Zb 0, Zb 0, Zb 0, Zb 0, Zb 0, Zb 0, Zb 0, Zb 0, Zb 0, Zb 0, Zb 0, Zb 0, Zb 0, Zb 0, Zb 0, Zb 0, Zb 0, Zb 0, Zb 0, Zb 0, Zb 0, Zb 0, Zb 0, Zi 0, Zi 0, AV.nsl, Zi 0, AV.nsl, Zi 0]] }]))))) (.out (AV.tup [AV.agg [Zi 0, Zi 0, Zi 0, Zi 0, Zi 0, Zb 0, Zb 0, Zb 0, Zb 0, Zb 0, Zb 0, Zb 0, Zb 0, Zb 0, Zb 0, Zb 0, Zb 0, Zb 0, Zb 0, Zb 0, Zb 0, Zb 0, Zb 0, Zb 0, Zb 0, Zb 0, Zb 0, Zb 0, Zb 0, Zb 0, Zb 0, Zb 0, Zb 0, Zb 0, Zb 0, Zb 0, Zb 0, Zi 0, Zi 0, Zi 0, Zi 0, Zi 0, Zi 0, Zb 0, Zb 0, Zb 0, Zb 0, Zb 0, Zb 0, Zb 0, Zb 0, Zb 0, Zb 0, Zb 0, Zb 0, Zb 0, Zb 0, Zb 0, Zb 0, Zb 0, Zb 0, Zb 0, Zb 0, Zb 0, Zb 0, Zb 0, Zb 0, Zb 0, Zb 0, Zb 0, Zb 0, Zb 0, Zb 0, Zb 0, Zb 0, Zi 0, Zi 0, AV.nsl, Zi 0, AV.nsl, Zi 0, Zi 0, Zi 0, Zi 0, Zi 0, Zb 0, Zb 0, Zb 0, Zb 0, Zb 0, Zb 0, Zb 0, Zb 0, Zb 0, Zb 0, Zb 0, Zb 0, Zb 0, Zb 0, Zb 0, Zb 0, Zb 0, Zb 0, Zb 0, Zb 0, Zb 0, Zb 0, Zb 0, Zb 0, Zb 0, Zb 0, Zb 0, Zb 0, Zb 0, Zb 0, Zb 0, Zb 0, Zi 0, Zi 0, Zi 0, Zi 0, Zi 0, Zi 0, Zb 0, Zb 0, Zb 0, Zb 0, Zb 0, Zb 0, Zb 0, Zb 0, Zb 0, Zb 0, Zb 0, Zb 0, Zb 0, Zb 0, Zb 0, Zb 0, Zb 0, Zb 0, Zb 0, Zb 0, Zb 0, Zb 0, Zb 0, Zb 0, Zb 0, Zb 0, Zb 0, Zb 0, Zb 0, Zb 0, Zb 0, Zb 0, Zi 0, Zi 0, AV.nsl, Zi 0, AV.nsl, Zi 0], Zi (erA b s t x13.1)]) [] (prvV b R n s t) []))))))))))))))
    (by kernel_rfl) ?_
  refine k_sc (c2) ?_
  refine k_sc (c3) ?_
  refine k_sc (c0) ?_
  refine k_scg (fun h3 => c1) ?_
  refine k_br (fun h4 => ?_) (fun h4 => ?_)
  · have g4 := (cnd_or_t (cnd_not_t cnd_id_f) (cnd_not_t (cnd_and_f cnd_id_f cnd_id_f))) h4
    exact k_out (prv_e (prv_1 g4) (by decide))
  · have g4 := (cnd_or_f (cnd_not_f cnd_id_t) (cnd_not_f (cnd_and_t cnd_id_t cnd_id_t))) h4
    refine k_br (fun h6 => ?_) (fun h6 => ?_)
    · have g6 := (cnd_or_t (cnd_not_t cnd_dec_f) (cnd_not_t cnd_dec_f)) h6
      exact k_out (prv_e (prv_2 g4 g6) (by decide))
    · have g6 := (cnd_or_f (cnd_not_f cnd_dec_t) (cnd_not_f cnd_dec_t)) h6
      refine k_sc (c4) ?_
      refine k_scg (fun h9 => c5) ?_
      refine k_br (fun h10 => ?_) (fun h10 => ?_)
      · have g10 := (cnd_or_t (cnd_not_t cnd_id_f) (cnd_not_t cnd_id_f)) h10
        exact k_out (prv_e (prv_3 g4 g6 g10) (by decide))
      · have g10 := (cnd_or_f (cnd_not_f cnd_id_t) (cnd_not_f cnd_id_t)) h10
        refine k_dc (c6) ?_
        refine k_loop (fun _ hs => hs.le (⟨.refl _, .refl _, .refl _, .refl _, .refl _, .refl _, Ent.of_eq rfl, .refl _, trivial⟩) (⟨.refl _, .refl _, .refl _, .refl _, trivial⟩)) (fun x13 => ?_)
        try (have q13 := x13.2; dsimp only at q13)
        refine k_br (fun h14 => ?_) (fun h14 => ?_)
        · have g14 := cnd_dec_t h14
          refine k_req (by omega) ?_
          refine k_sc (c7 (List.getD (sharedL s t) (Int.toNat (↑x13.1 : Int)) (0 : Int))) ?_
          refine k_br (fun h17 => ?_) (fun h17 => ?_)
          · have g17 := cnd_beq_t h17
            try simp only [Int.toNat_natCast] at g17
            exact k_out (Ent.of_eq (prv_ok g4 g6 g10 (by omega) x13.2.2 (okI_t g17)))
          · have g17 := cnd_beq_f h17
            try simp only [Int.toNat_natCast] at g17
            exact k_again (⟨x13.1 + 1, by omega, first_next x13.2.2 (by omega) (okI_f g17)⟩) (fun _ hs => hs.le (⟨.refl _, .refl _, .refl _, .refl _, .refl _, .refl _, Ent.of_eq rfl, inc_ent (by omega), trivial⟩) (⟨.refl _, .refl _, .refl _, .refl _, trivial⟩)) (by dsimp only; omega)
        · have g14 := cnd_dec_f h14
          exact k_out (prv_end g4 g6 g10 x13.2.2 (by omega))

end Go.Proofs.YtdaaddkipdmajaaGreatDoor

namespace Go.Proofs.YtdaaddkipdmajaaGreatDoor
open Go Go.Am Go.Sp
set_option maxRecDepth 100000

theorem xshared_n (s t : Spend) (hs : s.nl ≤ 1000) (ht : t.nl ≤ 1000) (h : okS s = true ∧ okS t = true) (hA : ¬ s.a = t.a) : Pure Tryz.prog gl0 43 [s.av, t.av] (.tup [il .i64 [], .int .i64 0]) := by
  have c := xshared_c s t hs ht
  rw [(shared_far h hA).1, (shared_far h hA).2] at c
  exact c

theorem span_y (s : Spend) (h : okS s = true) : Pure Tryz.prog gl0 25 [.int .i64 s.depth, .agg [.int .i64 s.level, .int .i64 s.index]] (.tup [.int .i64 (fromS s), .int .i64 (toS s), .int .i64 0]) := by
  have c := span_c s.depth s.level s.index
  rw [(span_d (okS_all h).1).1, ← (okS_all h).2.2.1, ← (okS_all h).2.2.2.1] at c
  exact c

theorem strangers_w (b : Bas) (R : Nat → Nat → Int) (n : Nat) (s t S T S' T' : Spend) (L E L' E' : Int) (F Z : Int) (K D : Int → Int) (hw : b.gr.W)
    (c2 : n ≤ 1000 → s.nl ≤ 1000 → t.nl ≤ 1000 → s.np ≤ 1000000 → t.np ≤ 1000000 → Pure Tryz.prog gl0 39 [b.av, rcl n R, s.av, t.av] (.tup [gul S T L, .int .i64 E]))
    (c3 : n ≤ 1000 → s.nl ≤ 1000 → s.np ≤ 1000000 → Pure Tryz.prog gl0 39 [b.av, rcl n R, s.av, s.av] (.tup [gul S' T' L', .int .i64 E']))
    (c4 : s.nl ≤ 1000 → t.nl ≤ 1000 → okS s = true ∧ okS t = true → ¬ s.a = t.a → Pure Tryz.prog gl0 43 [s.av, t.av] (.tup [il .i64 [], .int .i64 0]))
    (c5 : okS s = true → Pure Tryz.prog gl0 25 [.int .i64 s.depth, .agg [.int .i64 s.level, .int .i64 s.index]] (.tup [.int .i64 F, .int .i64 Z, .int .i64 0]))
    (c6 : ∀ l, s.nl ≤ 1000 → Pure Tryz.prog gl0 44 [b.av, s.av, s.av, .int .i64 l] (.tup [.int .i64 (K l), .int .i64 (D l)]))
    (k1 : ¬ s.a = t.a → ¬ E = 0 ∧ S.nl = 0) (k2 : ¬ E' = 0) (k3 : okS s = true → (s.nl : Int) = Z - F ∧ 0 ≤ F ∧ Z ≤ 1056) (k4 : validB b = true → okS s = true → ∀ l, F ≤ l ∧ l < Z → (D l = 20 ∨ D l = 2) ∧ K l = 0) :
    Pure Tryz.prog gl0 9 [b.av, rcl n R, s.av, t.av] (.bool true) := by
  have c0 := r11valid_c b hw
  have c1 := few33_2 s t
  have c7 := rformed_c s
  have c8 := rformed_c t
  have f := fun h => few_nl (s := s) (t := t) h
  have p := fun h => few_pp (s := s) (t := t) h
  refine pure_sk (own := ow0) Tryz.func9 (by kernel_rfl) mixed (by kernel_rfl)
    (.sc (true) 35 ([]) (AV.bool true) (.ff (.sc (true) 36 ([AV.isl (80) (2) fun (r k : Nat) => atL (List.getD [Spend.cells s, Spend.cells t] (r + 0) []) k]) (AV.bool (fewB s && fewB t)) (.sc ((!(fewB s && fewB t) || decide ((↑n : Int) > (20 : Int))) == false) 19 ([AV.agg (Bas.cells b)]) (AV.bool (validB b)) (.sc ((!(fewB s && fewB t) || decide ((↑n : Int) > (20 : Int)) || !validB b) == false) 42 ([AV.agg (Spend.cells s)]) (AV.bool (okS s)) (.sc ((!(fewB s && fewB t) || decide ((↑n : Int) > (20 : Int)) || !validB b || !okS s) == false) 42 ([AV.agg (Spend.cells t)]) (AV.bool (okS t)) (.br (!(fewB s && fewB t) || decide ((↑n : Int) > (20 : Int)) || !validB b || !okS s || !okS t) (.out (AV.bool true) [] (AV.bool true) []) (.br (s.5 != t.5) (.dc (true) 43 ([AV.agg (Spend.cells s), AV.agg (Spend.cells t)]) (AV.tup [il IntKind.i64 [], Zi 0]) (.dc (true) 39 ([AV.agg (Bas.cells b), AV.isl (11) n fun (i j : Nat) => Zi (R i j), AV.agg (Spend.cells s), AV.agg (Spend.cells t)]) (AV.tup [gul S T L, Zi E]) (.br (E == (0 : Int) || (↑S.16 : Int) != (0 : Int)) (.out (AV.bool false) [] (AV.bool true) []) (.dc (true) 39 ([AV.agg (Bas.cells b), AV.isl (11) n fun (i j : Nat) => Zi (R i j), AV.agg (Spend.cells s), AV.agg (Spend.cells s)]) (AV.tup [gul S' T' L', Zi E']) (.br (E' == (0 : Int)) (.out (AV.bool false) [] (AV.bool true) []) (.sc (true) 25 ([Zi s.4, AV.agg [Zi s.11, Zi s.12]]) (AV.tup [Zi F, Zi Z, Zi 0]) (.ff (.loop ({ x : Nat // x ≤ Spend.nl s }) (fun (x : { x : Nat // x ≤ Spend.nl s }) => mkSt [2, 4, 6, 16, 18] [AV.agg (Spend.cells s), AV.own (0) (6) (0) (0) (6), AV.own (1) (80) (0) (0) (80), Zi Z, Zi (F + (↑(x.1) : Int))] [some { es := 6, n := 1, mu := true, f := Rep.lst [Bas.cells b] }, some { es := 80, n := 1, mu := true, f := Rep.lst [Spend.cells s] }]) (fun (x : { x : Nat // x ≤ Spend.nl s }) => Spend.nl s - x.1) (⟨(0 : Nat), Nat.zero_le (Spend.nl s)⟩) ([2, 4, 6, 16, 18]) ([0, 8]) ([AV.agg (Spend.cells s), AV.own (0) (6) (0) (0) (6), AV.own (1) (80) (0) (0) (80), Zi Z, Zi F]) ([some { es := 6, n := 1, mu := true, f := Rep.lst [Bas.cells b] }, some { es := 80, n := 1, mu := true, f := Rep.lst [Spend.cells s] }]) (fun x18 => (.br (decide (F + (↑x18.1 : Int) < Z)) (.sc (true) 44 ([AV.agg (Bas.cells b), AV.agg (Spend.cells s), AV.agg (Spend.cells s), Zi (F + (↑x18.1 : Int))]) (AV.tup [Zi (K (F + (↑x18.1 : Int))), Zi (D (F + (↑x18.1 : Int)))]) (.br (D (F + (↑x18.1 : Int)) != (20 : Int) && D (F + (↑x18.1 : Int)) != (2 : Int) || K (F + (↑x18.1 : Int)) != (0 : Int)) (.out (AV.bool false) [] (AV.bool true) []) (.again (Again (0) (fun (x : { x : Nat // x ≤ Spend.nl s }) => mkSt [2, 4, 6, 16, 18] [AV.agg (Spend.cells s), AV.own (0) (6) (0) (0) (6), AV.own (1) (80) (0) (0) (80), Zi Z, Zi (F + (↑(x.1) : Int))] [some { es := 6, n := 1, mu := true, f := Rep.lst [Bas.cells b] }, some { es := 80, n := 1, mu := true, f := Rep.lst [Spend.cells s] }]) (fun (x : { x : Nat // x ≤ Spend.nl s }) => Spend.nl s - x.1) x18) ([2, 4, 6, 16, 18]) ([0, 1]) ([AV.agg (Spend.cells s), AV.own (0) (6) (0) (0) (6), AV.own (1) (80) (0) (0) (80), Zi Z, Zi (IntKind.wrap IntKind.i64 (F + (↑x18.1 : Int) + (1 : Int)))]) ([some { es := 6, n := 1, mu := true, f := Rep.lst [Bas.cells b] }, some { es := 80, n := 1, mu := true, f := Rep.lst [Spend.cells s] }])))) (.out (AV.bool true) [] (AV.bool true) []))))))))))) (.dc (true) 39 ([AV.agg (Bas.cells b), AV.isl (11) n fun (i j : Nat) => Zi (R i j), AV.agg (Spend.cells s), AV.agg (Spend.cells s)]) (AV.tup [gul S' T' L', Zi E']) (.br (E' == (0 : Int)) (.out (AV.bool false) [] (AV.bool true) []) (.sc (true) 25 ([Zi s.4, AV.agg [Zi s.11, Zi s.12]]) (AV.tup [Zi F, Zi Z, Zi 0]) (.ff (.loop ({ x : Nat // x ≤ Spend.nl s }) (fun (x : { x : Nat // x ≤ Spend.nl s }) => mkSt [2, 4, 6, 16, 18] [AV.agg (Spend.cells s), AV.own (0) (6) (0) (0) (6), AV.own (1) (80) (0) (0) (80), Zi Z, Zi (F + (↑(x.1) : Int))] [some { es := 6, n := 1, mu := true, f := Rep.lst [Bas.cells b] }, some { es := 80, n := 1, mu := true, f := Rep.lst [Spend.cells s] }]) (fun (x : { x : Nat // x ≤ Spend.nl s }) => Spend.nl s - x.1) (⟨(0 : Nat), Nat.zero_le (Spend.nl s)⟩) ([2, 4, 6, 16, 18]) ([0, 8]) ([AV.agg (Spend.cells s), AV.own (0) (6) (0) (0) (6), AV.own (1) (80) (0) (0) (80), Zi Z, Zi F]) ([some { es := 6, n := 1, mu := true, f := Rep.lst [Bas.cells b] }, some { es := 80, n := 1, mu := true, f := Rep.lst [Spend.cells s] }]) (fun x30 => (.br (decide (F + (↑x30.1 : Int) < Z)) (.sc (true) 44 ([AV.agg (Bas.cells b), AV.agg (Spend.cells s), AV.agg (Spend.cells s), Zi (F + (↑x30.1 : Int))]) (AV.tup [Zi (K (F + (↑x30.1 : Int))), Zi (D (F + (↑x30.1 : Int)))]) (.br (D (F + (↑x30.1 : Int)) != (20 : Int) && D (F + (↑x30.1 : Int)) != (2 : Int) || K (F + (↑x30.1 : Int)) != (0 : Int)) (.out (AV.bool false) [] (AV.bool true) []) (.again (Again (0) (fun (x : { x : Nat // x ≤ Spend.nl s }) => mkSt [2, 4, 6, 16, 18] [AV.agg (Spend.cells s), AV.own (0) (6) (0) (0) (6), AV.own (1) (80) (0) (0) (80), Zi Z, Zi (F + (↑(x.1) : Int))] [some { es := 6, n := 1, mu := true, f := Rep.lst [Bas.cells b] }, some { es := 80, n := 1, mu := true, f := Rep.lst [Spend.cells s] }]) (fun (x : { x : Nat // x ≤ Spend.nl s }) => Spend.nl s - x.1) x30) ([2, 4, 6, 16, 18]) ([0, 1]) ([AV.agg (Spend.cells s), AV.own (0) (6) (0) (0) (6), AV.own (1) (80) (0) (0) (80), Zi Z, Zi (IntKind.wrap IntKind.i64 (F + (↑x30.1 : Int) + (1 : Int)))]) ([some { es := 6, n := 1, mu := true, f := Rep.lst [Bas.cells b] }, some { es := 80, n := 1, mu := true, f := Rep.lst [Spend.cells s] }])))) (.out (AV.bool true) [] (AV.bool true) []))))))))))))))))
    (by kernel_rfl) ?_
  refine k_sc (awake33_c) ?_
  refine k_ff ?_
  refine k_sc (c1) ?_
  refine k_scg (fun h3 => c0) ?_
  refine k_scg (fun h4 => c7) ?_
  refine k_scg (fun h5 => c8) ?_
  refine k_br (fun h6 => ?_) (fun h6 => ?_)
  · have g6 := (cnd_or_t (cnd_or_t (cnd_or_t (cnd_or_t (cnd_not_t (cnd_and_f cnd_id_f cnd_id_f)) cnd_dec_t) (cnd_not_t cnd_id_f)) (cnd_not_t cnd_id_f)) (cnd_not_t cnd_id_f)) h6
    exact k_out (Ent.of_eq rfl)
  · have g6 := (cnd_or_f (cnd_or_f (cnd_or_f (cnd_or_f (cnd_not_f (cnd_and_t cnd_id_t cnd_id_t)) cnd_dec_f) (cnd_not_f cnd_id_t)) (cnd_not_f cnd_id_t)) (cnd_not_f cnd_id_t)) h6
    refine k_br (fun h8 => ?_) (fun h8 => ?_)
    · have g8 := cnd_bne_t h8
      refine k_dc (c4 (by first | omega | exact (f g6.1.1.1.1).1 | exact (f g6.1.1.1.1).2 | exact (p g6.1.1.1.1).1 | exact (p g6.1.1.1.1).2 | exact ⟨g6.1.2, g6.2⟩ | exact g6.1.2 | exact g8) (by first | omega | exact (f g6.1.1.1.1).1 | exact (f g6.1.1.1.1).2 | exact (p g6.1.1.1.1).1 | exact (p g6.1.1.1.1).2 | exact ⟨g6.1.2, g6.2⟩ | exact g6.1.2 | exact g8) (by first | omega | exact (f g6.1.1.1.1).1 | exact (f g6.1.1.1.1).2 | exact (p g6.1.1.1.1).1 | exact (p g6.1.1.1.1).2 | exact ⟨g6.1.2, g6.2⟩ | exact g6.1.2 | exact g8) (by first | omega | exact (f g6.1.1.1.1).1 | exact (f g6.1.1.1.1).2 | exact (p g6.1.1.1.1).1 | exact (p g6.1.1.1.1).2 | exact ⟨g6.1.2, g6.2⟩ | exact g6.1.2 | exact g8)) ?_
      refine k_dc (c2 (by first | omega | exact (f g6.1.1.1.1).1 | exact (f g6.1.1.1.1).2 | exact (p g6.1.1.1.1).1 | exact (p g6.1.1.1.1).2 | exact ⟨g6.1.2, g6.2⟩ | exact g6.1.2 | exact g8) (by first | omega | exact (f g6.1.1.1.1).1 | exact (f g6.1.1.1.1).2 | exact (p g6.1.1.1.1).1 | exact (p g6.1.1.1.1).2 | exact ⟨g6.1.2, g6.2⟩ | exact g6.1.2 | exact g8) (by first | omega | exact (f g6.1.1.1.1).1 | exact (f g6.1.1.1.1).2 | exact (p g6.1.1.1.1).1 | exact (p g6.1.1.1.1).2 | exact ⟨g6.1.2, g6.2⟩ | exact g6.1.2 | exact g8) (by first | omega | exact (f g6.1.1.1.1).1 | exact (f g6.1.1.1.1).2 | exact (p g6.1.1.1.1).1 | exact (p g6.1.1.1.1).2 | exact ⟨g6.1.2, g6.2⟩ | exact g6.1.2 | exact g8) (by first | omega | exact (f g6.1.1.1.1).1 | exact (f g6.1.1.1.1).2 | exact (p g6.1.1.1.1).1 | exact (p g6.1.1.1.1).2 | exact ⟨g6.1.2, g6.2⟩ | exact g6.1.2 | exact g8)) ?_
      refine k_br (fun h11 => ?_) (fun h11 => ?_)
      · have g11 := (cnd_or_t cnd_beq_t cnd_bne_t) h11
        exact k_out ((by exfalso; have k := k1 g8; omega))
      · have g11 := (cnd_or_f cnd_beq_f cnd_bne_f) h11
        refine k_dc (c3 (by first | omega | exact (f g6.1.1.1.1).1 | exact (f g6.1.1.1.1).2 | exact (p g6.1.1.1.1).1 | exact (p g6.1.1.1.1).2 | exact ⟨g6.1.2, g6.2⟩ | exact g6.1.2 | exact g8) (by first | omega | exact (f g6.1.1.1.1).1 | exact (f g6.1.1.1.1).2 | exact (p g6.1.1.1.1).1 | exact (p g6.1.1.1.1).2 | exact ⟨g6.1.2, g6.2⟩ | exact g6.1.2 | exact g8) (by first | omega | exact (f g6.1.1.1.1).1 | exact (f g6.1.1.1.1).2 | exact (p g6.1.1.1.1).1 | exact (p g6.1.1.1.1).2 | exact ⟨g6.1.2, g6.2⟩ | exact g6.1.2 | exact g8)) ?_
        refine k_br (fun h14 => ?_) (fun h14 => ?_)
        · have g14 := cnd_beq_t h14
          exact k_out ((by exfalso; exact k2 g14))
        · have g14 := cnd_beq_f h14
          refine k_sc (c5 (by first | omega | exact (f g6.1.1.1.1).1 | exact (f g6.1.1.1.1).2 | exact (p g6.1.1.1.1).1 | exact (p g6.1.1.1.1).2 | exact ⟨g6.1.2, g6.2⟩ | exact g6.1.2 | exact g8)) ?_
          refine k_ff ?_
          refine k_loop (fun _ hs => hs.le (⟨.refl _, .refl _, .refl _, .refl _, Ent.of_eq (congrArg _ (by simp)), trivial⟩) (⟨.refl _, .refl _, trivial⟩)) (fun x18 => ?_)
          try (have q18 := x18.2; dsimp only at q18)
          have kk := k3 g6.1.2
          refine k_br (fun h19 => ?_) (fun h19 => ?_)
          · have g19 := cnd_dec_t h19
            refine k_sc (c6 (F + (↑x18.1 : Int)) (by first | omega | exact (f g6.1.1.1.1).1 | exact (f g6.1.1.1.1).2 | exact (p g6.1.1.1.1).1 | exact (p g6.1.1.1.1).2 | exact ⟨g6.1.2, g6.2⟩ | exact g6.1.2 | exact g8)) ?_
            refine k_br (fun h21 => ?_) (fun h21 => ?_)
            · have g21 := (cnd_or_t (cnd_and_t cnd_bne_t cnd_bne_t) cnd_bne_t) h21
              exact k_out ((by exfalso; have k := k4 g6.1.1.2 g6.1.2 (F + x18.1) (by omega); omega))
            · have g21 := (cnd_or_f (cnd_and_f cnd_bne_f cnd_bne_f) cnd_bne_f) h21
              exact k_again (⟨x18.1 + 1, by omega⟩) (fun _ hs => hs.le (⟨.refl _, .refl _, .refl _, .refl _, Ent.of_eq (congrArg _ (by have k := k3 g6.1.2; rw [wI (by omega) (by omega)]; dsimp only; omega)), trivial⟩) (⟨.refl _, .refl _, trivial⟩)) (by dsimp only; omega)
          · have g19 := cnd_dec_f h19
            exact k_out (Ent.refl _)
    · have g8 := cnd_bne_f h8
      refine k_dc (c3 (by first | omega | exact (f g6.1.1.1.1).1 | exact (f g6.1.1.1.1).2 | exact (p g6.1.1.1.1).1 | exact (p g6.1.1.1.1).2 | exact ⟨g6.1.2, g6.2⟩ | exact g6.1.2 | exact g8) (by first | omega | exact (f g6.1.1.1.1).1 | exact (f g6.1.1.1.1).2 | exact (p g6.1.1.1.1).1 | exact (p g6.1.1.1.1).2 | exact ⟨g6.1.2, g6.2⟩ | exact g6.1.2 | exact g8) (by first | omega | exact (f g6.1.1.1.1).1 | exact (f g6.1.1.1.1).2 | exact (p g6.1.1.1.1).1 | exact (p g6.1.1.1.1).2 | exact ⟨g6.1.2, g6.2⟩ | exact g6.1.2 | exact g8)) ?_
      refine k_br (fun h26 => ?_) (fun h26 => ?_)
      · have g26 := cnd_beq_t h26
        exact k_out ((by exfalso; exact k2 g26))
      · have g26 := cnd_beq_f h26
        refine k_sc (c5 (by first | omega | exact (f g6.1.1.1.1).1 | exact (f g6.1.1.1.1).2 | exact (p g6.1.1.1.1).1 | exact (p g6.1.1.1.1).2 | exact ⟨g6.1.2, g6.2⟩ | exact g6.1.2 | exact g8)) ?_
        refine k_ff ?_
        refine k_loop (fun _ hs => hs.le (⟨.refl _, .refl _, .refl _, .refl _, Ent.of_eq (congrArg _ (by simp)), trivial⟩) (⟨.refl _, .refl _, trivial⟩)) (fun x30 => ?_)
        try (have q30 := x30.2; dsimp only at q30)
        have kk := k3 g6.1.2
        refine k_br (fun h31 => ?_) (fun h31 => ?_)
        · have g31 := cnd_dec_t h31
          refine k_sc (c6 (F + (↑x30.1 : Int)) (by first | omega | exact (f g6.1.1.1.1).1 | exact (f g6.1.1.1.1).2 | exact (p g6.1.1.1.1).1 | exact (p g6.1.1.1.1).2 | exact ⟨g6.1.2, g6.2⟩ | exact g6.1.2 | exact g8)) ?_
          refine k_br (fun h33 => ?_) (fun h33 => ?_)
          · have g33 := (cnd_or_t (cnd_and_t cnd_bne_t cnd_bne_t) cnd_bne_t) h33
            exact k_out ((by exfalso; have k := k4 g6.1.1.2 g6.1.2 (F + x30.1) (by omega); omega))
          · have g33 := (cnd_or_f (cnd_and_f cnd_bne_f cnd_bne_f) cnd_bne_f) h33
            exact k_again (⟨x30.1 + 1, by omega⟩) (fun _ hs => hs.le (⟨.refl _, .refl _, .refl _, .refl _, Ent.of_eq (congrArg _ (by have k := k3 g6.1.2; rw [wI (by omega) (by omega)]; dsimp only; omega)), trivial⟩) (⟨.refl _, .refl _, trivial⟩)) (by dsimp only; omega)
        · have g31 := cnd_dec_f h31
          exact k_out (Ent.refl _)

theorem exposeStrangers_c (b : Bas) (R : Nat → Nat → Int) (n : Nat) (s t : Spend) (hw : b.gr.W) (bs : s.By) (bt : t.By) (fs : ∀ k, k < s.np → byB (s.pf k) 32) (ft : ∀ k, k < t.np → byB (t.pf k) 32) :
    Pure Tryz.prog gl0 9 [b.av, rcl n R, s.av, t.av] (.bool true) :=
  strangers_w b R n s t (prS b R n s t) (prT b R n s t) (prS b R n s s) (prT b R n s s) (prL b R n s t) (prvE b R n s t) (prL b R n s s) (prvE b R n s s) (fromS s) (toS s) (fun l => (secR b s s l).1) (fun l => (secR b s s l).2) hw
    (fun hn h h' p p' => prove_c b R n s t hn hw h h' bs bt p p' fs ft)
    (fun hn h p => prove_c b R n s s hn hw h h bs bs p p fs fs)
    (fun hs ht h hA => xshared_n s t hs ht h hA)
    (fun h => span_y s h)
    (fun l h => secret_c b s s l hw h h bs bs)
    (fun hA => ⟨prv_far hA, prS_far hA⟩) prv_self
    (fun h => ⟨(okS_all h).2.2.2.2, (fromS_bnd s).1, by rw [(okS_all h).2.2.2.1]; exact spanZ_b (okS_all h).1⟩)
    (fun hb h l hl => sec_st hb h hl)

end Go.Proofs.YtdaaddkipdmajaaGreatDoor

namespace Go.Sp
open Go Go.Am

def u8s (n : Nat) : List CT := List.replicate n (.int .u8)
def spendT : List CT := [.int .i64, .int .i64, .int .i64, .int .i64, .int .i64] ++ u8s 32 ++ [.int .i64, .int .i64, .int .i64, .int .i64, .int .i64, .int .i64] ++ u8s 32 ++ [.int .i64, .int .i64, .sl [.int .i64, .int .i64, .int .i64], .int .i64, .sl (u8s 32)]

/-- The spend with these cells. -/
def spendOf (g : Nat → AV) : Spend :=
  { bank := intOfAV (g 0), epoch := intOfAV (g 1), denom := intOfAV (g 2), depth := intOfAV (g 3), a := intOfAV (g 4), root := fun j => intOfAV (g (5 + j)),
    z := intOfAV (g 37), sa := intOfAV (g 38), sb := intOfAV (g 39), r := intOfAV (g 40), level := intOfAV (g 41), index := intOfAV (g 42), payee := fun j => intOfAV (g (43 + j)),
    time := intOfAV (g 75), number := intOfAV (g 76), nl := islN (g 77), lf := fun i j => intOfAV (islF (g 77) i j), pidx := intOfAV (g 78), np := islN (g 79), pf := fun i j => intOfAV (islF (g 79) i j) }

end Go.Sp

namespace Go.Sp
open Go Go.Am

def i64s (n : Nat) : List CT := List.replicate n (.int .i64)
end Go.Sp

namespace Go.Sp
open Go Go.Am
def basOf (g : Nat → AV) : Bas := ⟨⟨intOfAV (g 0), intOfAV (g 1), intOfAV (g 2)⟩, intOfAV (g 3), intOfAV (g 4), intOfAV (g 5)⟩
theorem cell_i64 {a : AV} (h : CellOk (.int .i64) a) : -9223372036854775808 ≤ intOfAV a ∧ intOfAV a ≤ 9223372036854775807 := by
  obtain ⟨h1, h2⟩ := (Lit.wf_int_iff _ _).1 h.int_inv
  exact ⟨Int.le_trans (by decide) h1, Int.le_trans h2 (by decide)⟩
theorem cell_u8 {a : AV} (h : CellOk (.int .u8) a) : 0 ≤ intOfAV a ∧ intOfAV a < 256 := by
  obtain ⟨h1, h2⟩ := (Lit.wf_int_iff _ _).1 h.int_inv
  exact ⟨Int.le_trans (by decide) h1, Int.lt_of_le_of_lt h2 (by decide)⟩
theorem u8_by {ts : List CT} {g : Nat → AV} {k n : Nat} (h : ∀ (j : Nat) c, ts[j]? = some c → CellOk c (g j)) (ht : ∀ j, j < n → ts[k + j]? = some (.int .u8)) : byB (fun j => intOfAV (g (k + j))) n := fun i hi => cell_u8 (h (k + i) _ (ht i hi))
theorem basOf_w {g : Nat → AV} (h : ∀ (j : Nat) c, (i64s 6)[j]? = some c → CellOk c (g j)) : (basOf g).gr.W :=
  ⟨(cell_i64 (h 0 _ rfl)).2, (cell_i64 (h 1 _ rfl)).2⟩
def spA : List CT := [.int .i64, .int .i64, .int .i64, .int .i64, .int .i64]
def spB : List CT := [.int .i64, .int .i64, .int .i64, .int .i64, .int .i64, .int .i64]
def spC : List CT := [.int .i64, .int .i64, .sl [.int .i64, .int .i64, .int .i64], .int .i64, .sl (u8s 32)]
theorem spendT_root : ∀ j, j < 32 → spendT[5 + j]? = some (.int .u8) := fun j hj => by
  show (((spA ++ u8s 32) ++ spB) ++ u8s 32 ++ spC)[5 + j]? = _
  rw [List.append_assoc, List.append_assoc, List.getElem?_append_left (by simp only [spA, u8s, List.length_append, List.length_replicate, List.length_cons, List.length_nil]; omega),
    List.getElem?_append_right (by show 5 ≤ _; omega)]
  unfold u8s
  rw [List.getElem?_replicate, if_pos (by show 5 + j - 5 < 32; omega)]
theorem spendT_payee : ∀ j, j < 32 → spendT[43 + j]? = some (.int .u8) := fun j hj => by
  show (((spA ++ u8s 32) ++ spB) ++ u8s 32 ++ spC)[43 + j]? = _
  have e : ((spA ++ u8s 32) ++ spB).length = 43 := by simp [spA, spB, u8s]
  rw [List.append_assoc, List.getElem?_append_right (by omega), e, List.getElem?_append_left (by simp only [u8s, List.length_replicate]; omega)]
  unfold u8s
  rw [List.getElem?_replicate, if_pos (by omega)]
theorem spend_by {g : Nat → AV} (h : ∀ (j : Nat) c, spendT[j]? = some c → CellOk c (g j)) : (spendOf g).By := ⟨u8_by (k := 5) h spendT_root, u8_by (k := 43) h spendT_payee⟩
end Go.Sp

namespace Go.Sp
open Go Go.Am
theorem u8s_i {k : Nat} (h : k < 32) : (u8s 32)[k]? = some (.int .u8) := by
  unfold u8s
  rw [List.getElem?_replicate, if_pos h]
theorem spend_pf {g : Nat → AV} (h : ∀ (j : Nat) c, spendT[j]? = some c → CellOk c (g j)) : ∀ k, k < (spendOf g).np → byB ((spendOf g).pf k) 32 :=
  fun j hj k hk => cell_u8 ((h 79 (.sl (u8s 32)) rfl).sl_inv.2 j k (.int .u8) hj (u8s_i hk))
end Go.Sp

namespace Go.Am
open Go

theorem laid_at {P : Program} {w : World} : ∀ {laid : List (String × DataW Unit)} {ps : List MemPlace}, DataW.LaidVars P w laid ps → ∀ {i : Nat} {n : String} {d : DataW Unit}, laid[i]? = some (n, d) →
    ∃ g t cs fuel p, P.globalNamed n = some g ∧ (P.globals[g]?).map (·.type) = some t ∧ w.var? P n = some cs ∧ DataW.trod (fun _ => ()) P w 0 (fun _ => true) false fuel t cs.toList = some (d, p)
  | [], _, _, i, n, d, h => by simp at h
  | (n', d') :: r, ps, ⟨g, t, cs, fuel, p, q, h1, h2, h3, h4, _, _⟩, 0, n, d, h => by
    simp only [List.getElem?_cons_zero, Option.some.injEq, Prod.mk.injEq] at h
    obtain ⟨rfl, rfl⟩ := h
    exact ⟨g, t, cs, fuel, p, h1, h2, h3, h4⟩
  | (n', d') :: r, ps, ⟨g, t, cs, fuel, p, q, h1, h2, h3, h4, h5, _⟩, i + 1, n, d, h => laid_at h5 (by simpa using h)

/-- Is the variable an array of so many integers? -/
def arrOk (P : Program) (g n : Nat) (k : IntKind) : Bool :=
  match (P.globals[g]?).map (·.type) with
  | some t =>
    match P.underlying t with
    | some (.array m e) =>
      match P.underlying e with
      | some (.int k') => Nat.beq m n && Nat.beq (P.cellsOf e) 1 && decide (k' = k)
      | _ => false
    | _ => false
  | none => false
theorem arrOk_inv {P : Program} {g n : Nat} {k : IntKind} (h : arrOk P g n k = true) : ∃ t e, (P.globals[g]?).map (·.type) = some t ∧ P.underlying t = some (.array n e) ∧ P.underlying e = some (.int k) ∧ P.cellsOf e = 1 := by
  unfold arrOk at h
  split at h
  · rename_i t ht
    split at h
    · rename_i m e hu
      split at h
      · rename_i k' he
        simp only [Bool.and_eq_true, decide_eq_true_eq, Nat.beq_eq] at h
        obtain ⟨⟨rfl, h2⟩, rfl⟩ := h
        exact ⟨t, e, ht, hu, he, h2⟩
      · cases h
    · cases h
  · cases h

theorem glob_ints {P : Program} {w : World} {β : Book} {laid : List (String × DataW Unit)} (h : laidMetH P laid w) (hp : (laid.all fun x => x.2.handleName?.isNone) = true) (i : Nat) (name : String) {g n : Nat}
    {k : IntKind} {F : Nat → Int} (hl : laid[i]? = some (name, .agg ((List.range n).map fun j => .lit (.int k (F j))))) (hg : P.globalNamed name = some g) (ho : arrOk P g n k = true) (hn : 0 < n) (hb : β.free g) : Rel β w (.ipt n fun j => .int k (F j)) (.pointer (some ⟨g, 0, none⟩)) := by
  obtain ⟨t, e, ht, hu, he, hc⟩ := arrOk_inv ho
  rw [MakeChecks.laidMetH_plain _ _ _ hp] at h
  obtain ⟨ps, hv, _, _⟩ := h
  obtain ⟨g', t', cs, fuel, p, h1, h2, h3, h4⟩ := laid_at hv hl
  obtain rfl := Option.some.inj (hg.symm.trans h1)
  obtain rfl := Option.some.inj (ht.symm.trans h2)
  obtain ⟨xs, m, rfl, hx, hlen, hxl, hel⟩ := DataW.trod_array hu h4
  simp only [Prod.mk.injEq, DataW.agg.injEq] at hx
  obtain ⟨hx, _⟩ := hx
  have cell : ∀ j, j < n → cs[j]? = some (.int k (F j)) := fun j hj => by
    have hj' := hel j hj
    rw [hc, Nat.mul_one, List.getElem?_eq_getElem (by omega : j < xs.length)] at hj'
    obtain ⟨v, e1, e2, _⟩ := DataW.trod_int he hj'
    have e3 : (xs.map (·.1))[j]? = some (.lit (.int k v)) := by rw [List.getElem?_map, List.getElem?_eq_getElem (by omega : j < xs.length), e2]; rfl
    rw [← hx] at e3
    simp only [List.getElem?_map, List.getElem?_range hj, Option.map_some, Option.some.injEq, DataW.lit.injEq, Lit.int.injEq, true_and] at e3
    subst e3
    have e4 : (List.take 1 (List.drop j cs.toList))[0]? = some (.int k (F j)) := by rw [e1]; rfl
    rw [List.getElem?_take_of_lt (by decide), List.getElem?_drop, Nat.add_zero] at e4
    simpa using e4
  refine .ipt (fun j => .int k (F j)) hn hb (fun j hj => ?_) (fun _ _ => rfl) (fun _ _ => .int) (fun _ _ => .int)
  rw [World.var?_cell hg h3]
  simpa using cell j hj
end Go.Am
