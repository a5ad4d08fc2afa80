/- Part of the proof: FE3, FE4, FE5, Exp2, FE8, Rec, FV5, FV6, Crt, FV7, FV8, Cval, FV9, FV10, FV11, Prd, FV12, FV13, Vfy. -/
import Derived.Test.YtdaaddkipdmajaaGreatDoorM6
import Derived.Test.YtdaaddkipdmajaaGreatDoorProg
import Derived.Test.YtdaaddkipdmajaaGreatDoorM4
import Derived.Test.YtdaaddkipdmajaaGreatDoorM5
namespace Go.Proofs.YtdaaddkipdmajaaGreatDoor
open Go Go.Am Go.Sp
set_option maxRecDepth 100000

theorem chall_c (b : Bas) (c : Coin) (l i : Int) (x : Cxt) (hw : b.gr.W) (hr : byB c.root 32) (hp : byB x.payee 32) : Pure Tryz.prog gl0 54 [b.av, c.av, .agg [.int .i64 l, .int .i64 i], x.av] (.tup [.int .i64 (chalK b c l i x), .int .i64 (chalE b c l i x)]) := by
  have hc := fun h h' => chal_c b c l i x hr hp h h'
  have hx := context_c x
  have hv := bvalid_c b hw
  refine pure_sk (own := ow0) Tryz.func54 (by kernel_rfl) mixed (by kernel_rfl)
    (let y0 : AV := (AV.tup [Zi (chalK b c l i x), Zi (chalE b c l i x)]); (.sc (true) 52 ([AV.agg (Bas.cells b)]) (AV.bool (validB b)) (.br (!validB b) (.out (AV.tup [Zi 0, Zi 1]) [] y0 []) (.sc (true) 68 ([Zi c.4, AV.agg [Zi l, Zi i]]) (AV.bool (nodeB c.4 l i)) (.sc ((!nodeB c.4 l i) == false) 69 ([AV.agg (u8c x.1 ++ [Zi x.2, Zi x.3])]) (AV.bool (ctxB (Cxt.time x) (Cxt.number x))) (.br (!nodeB c.4 l i || !ctxB x.2 x.3) (.out (AV.tup [Zi 0, Zi 2]) [] y0 []) (.sc (true) 70 ([AV.agg (Bas.cells b), AV.agg (Coin.cells c), AV.agg [Zi l, Zi i], AV.agg (u8c x.1 ++ [Zi x.2, Zi x.3])]) (Zi (chalN (Grp.q (Bas.gr b)) c l i x)) (.out (AV.tup [Zi (chalN (Bas.gr b).2 c l i x), Zi 0]) [] y0 []))))))))
    (by kernel_rfl) ?_
  refine k_sc (hv) ?_
  refine k_br (fun h1 => ?_) (fun h1 => ?_)
  · have g1 := (cnd_not_t cnd_id_f) h1
    exact k_out (Ent.of_eq (by rw [(chal_1 g1).1, (chal_1 g1).2]))
  · have g1 := (cnd_not_f cnd_id_t) h1
    refine k_sc (node_c (c.4) (l) (i)) ?_
    refine k_scg (fun h4 => hx) ?_
    refine k_br (fun h5 => ?_) (fun h5 => ?_)
    · have g5 := (cnd_or_t (cnd_not_t cnd_id_f) (cnd_not_t cnd_id_f)) h5
      exact k_out (Ent.of_eq (by rw [(chal_2 g1 g5).1, (chal_2 g1 g5).2]))
    · have g5 := (cnd_or_f (cnd_not_f cnd_id_t) (cnd_not_f cnd_id_t)) h5
      refine k_sc (hc ((validB_q g1).1) ((validB_q g1).2)) ?_
      exact k_out (Ent.of_eq (by rw [(chal_3 g1 g5).1, (chal_3 g1 g5).2]))

theorem indexN_c (l : List Int) (v : Int) (hn : l.length < 9223372036854775808) : Pure Tryz.prog gl0 152 [il .i64 l, .int .i64 v] (.int .i64 (firstI (fun i => l.getD i 0 == v) l.length 0)) := by
  refine pure_sk (own := ow0) Tryz.func152 (by kernel_rfl) mixed (by kernel_rfl)
    (let y0 : AV := (Zi (firstI (fun (i : Nat) => List.getD l i (0 : Int) == v) (List.length l) 0)); (.loop ({ x : Nat // x ≤ List.length l ∧ (fun (i : Nat) => firstI (fun (i : Nat) => List.getD l i (0 : Int) == v) (List.length l) 0 = firstI (fun (i : Nat) => List.getD l i (0 : Int) == v) (List.length l - i) i) x }) (fun (x : { x : Nat // x ≤ List.length l ∧ (fun (i : Nat) => firstI (fun (i : Nat) => List.getD l i (0 : Int) == v) (List.length l) 0 = firstI (fun (i : Nat) => List.getD l i (0 : Int) == v) (List.length l - i) i) x }) => mkSt [0, 1, 7, 8] [AV.isl 1 (List.length l) fun (i x : Nat) => Zi (List.getD l i (0 : Int)), Zi v, Zi (↑(List.length l) : Int), Zi (↑(x.1) : Int)] []) (fun (x : { x : Nat // x ≤ List.length l ∧ (fun (i : Nat) => firstI (fun (i : Nat) => List.getD l i (0 : Int) == v) (List.length l) 0 = firstI (fun (i : Nat) => List.getD l i (0 : Int) == v) (List.length l - i) i) x }) => List.length l - x.1) (⟨0, ⟨Nat.zero_le (List.length l), rfl⟩⟩) ([0, 1, 7, 8]) ([]) ([AV.isl 1 (List.length l) fun (i x : Nat) => Zi (List.getD l i (0 : Int)), Zi v, Zi (↑(List.length l) : Int), Zi 0]) ([]) (fun x0 => (.br (decide ((↑x0.1 : Int) < (↑(List.length l) : Int))) (.req ((0 : Int) ≤ (↑x0.1 : Int) ∧ (↑x0.1 : Int) < (↑(List.length l) : Int)) (.br (v == List.getD l (Int.toNat (↑x0.1 : Int)) (0 : Int)) (.out (Zi (↑x0.1 : Int)) [] y0 []) (.again (Again 0 (fun (x : { x : Nat // x ≤ List.length l ∧ (fun (i : Nat) => firstI (fun (i : Nat) => List.getD l i (0 : Int) == v) (List.length l) 0 = firstI (fun (i : Nat) => List.getD l i (0 : Int) == v) (List.length l - i) i) x }) => mkSt [0, 1, 7, 8] [AV.isl 1 (List.length l) fun (i x : Nat) => Zi (List.getD l i (0 : Int)), Zi v, Zi (↑(List.length l) : Int), Zi (↑(x.1) : Int)] []) (fun (x : { x : Nat // x ≤ List.length l ∧ (fun (i : Nat) => firstI (fun (i : Nat) => List.getD l i (0 : Int) == v) (List.length l) 0 = firstI (fun (i : Nat) => List.getD l i (0 : Int) == v) (List.length l - i) i) x }) => List.length l - x.1) x0) ([0, 1, 7, 8]) ([]) ([AV.isl 1 (List.length l) fun (i x : Nat) => Zi (List.getD l i (0 : Int)), Zi v, Zi (↑(List.length l) : Int), Zi (IntKind.wrap IntKind.i64 ((↑x0.1 : Int) + 1))]) ([])))) (.out (Zi (-1)) [] y0 [])))))
    (by kernel_rfl) ?_
  refine k_loop (fun _ hs => hs.le (⟨.refl _, .refl _, .refl _, .refl _, trivial⟩) (trivial)) (fun x0 => ?_)
  try (have q0 := x0.2; dsimp only at q0)
  refine k_br (fun h1 => ?_) (fun h1 => ?_)
  · have g1 := cnd_dec_t h1
    refine k_req (by omega) ?_
    refine k_br (fun h3 => ?_) (fun h3 => ?_)
    · have g3 := cnd_beq_t h3
      try simp only [Int.toNat_natCast] at g3
      exact k_out (Ent.of_eq (congrArg _ (first_hit x0.2.2 (by omega) (by simp only [beq_iff_eq]; exact g3.symm))))
    · have g3 := cnd_beq_f h3
      try simp only [Int.toNat_natCast] at g3
      exact k_again (⟨x0.1 + 1, by omega, first_next x0.2.2 (by omega) (by simp only [beq_eq_false_iff_ne]; exact fun e => g3 e.symm)⟩) (fun _ hs => hs.le (⟨.refl _, .refl _, .refl _, inc_ent (by omega), trivial⟩) (trivial)) (by dsimp only; omega)
  · have g1 := cnd_dec_f h1
    exact k_out (Ent.of_eq (congrArg _ (first_miss x0.2.2 (by omega))))

theorem containsN_c (l : List Int) (v : Int) (hn : l.length < 9223372036854775808) : Pure Tryz.prog gl0 72 [il .i64 l, .int .i64 v] (.bool (decide (v ∈ l))) := by
  refine pure_sk (own := ow0) Tryz.func72 (by kernel_rfl) mixed (by kernel_rfl)
    (.sc (true) 152 ([AV.isl 1 (List.length l) fun (i x : Nat) => Zi (List.getD l i (0 : Int)), Zi v]) (Zi (firstI (fun (i : Nat) => List.getD l i (0 : Int) == v) (List.length l) 0)) (.out (AV.bool (decide (firstI (fun (i : Nat) => List.getD l i (0 : Int) == v) (List.length l) 0 ≥ 0))) [] (AV.bool (decide (v ∈ l))) []))
    (by kernel_rfl) ?_
  refine k_sc (indexN_c (l) (v) (by assumption)) ?_
  exact k_out (Ent.of_eq (congrArg _ first_mem))

theorem equalN_c (l : List Int) (hn : l.length < 9223372036854775808) : Pure Tryz.prog gl0 95 [il .i64 l, il .i64 l] (.bool true) := by
  refine pure_sk (own := ow0) Tryz.func95 (by kernel_rfl) mixed (by kernel_rfl)
    (.br ((↑(List.length l) : Int) != (↑(List.length l) : Int)) (.out (AV.bool false) [] (AV.bool true) []) (.loop ({ x : Nat // x ≤ List.length l }) (fun (x : { x : Nat // x ≤ List.length l }) => mkSt [0, 1, 12, 13] [AV.isl 1 (List.length l) fun (i x : Nat) => Zi (List.getD l i (0 : Int)), AV.isl 1 (List.length l) fun (i x : Nat) => Zi (List.getD l i (0 : Int)), Zi (↑(List.length l) : Int), Zi (↑(x.1) : Int)] []) (fun (x : { x : Nat // x ≤ List.length l }) => List.length l - x.1) (⟨0, Nat.zero_le (List.length l)⟩) ([0, 1, 12, 13]) ([]) ([AV.isl 1 (List.length l) fun (i x : Nat) => Zi (List.getD l i (0 : Int)), AV.isl 1 (List.length l) fun (i x : Nat) => Zi (List.getD l i (0 : Int)), Zi (↑(List.length l) : Int), Zi 0]) ([]) (fun x2 => (.br (decide ((↑x2.1 : Int) < (↑(List.length l) : Int))) (.req ((0 : Int) ≤ (↑x2.1 : Int) ∧ (↑x2.1 : Int) < (↑(List.length l) : Int)) (.req ((0 : Int) ≤ (↑x2.1 : Int) ∧ (↑x2.1 : Int) < (↑(List.length l) : Int)) (.br (List.getD l (Int.toNat (↑x2.1 : Int)) (0 : Int) != List.getD l (Int.toNat (↑x2.1 : Int)) (0 : Int)) (.out (AV.bool false) [] (AV.bool true) []) (.again (Again 0 (fun (x : { x : Nat // x ≤ List.length l }) => mkSt [0, 1, 12, 13] [AV.isl 1 (List.length l) fun (i x : Nat) => Zi (List.getD l i (0 : Int)), AV.isl 1 (List.length l) fun (i x : Nat) => Zi (List.getD l i (0 : Int)), Zi (↑(List.length l) : Int), Zi (↑(x.1) : Int)] []) (fun (x : { x : Nat // x ≤ List.length l }) => List.length l - x.1) x2) ([0, 1, 12, 13]) ([]) ([AV.isl 1 (List.length l) fun (i x : Nat) => Zi (List.getD l i (0 : Int)), AV.isl 1 (List.length l) fun (i x : Nat) => Zi (List.getD l i (0 : Int)), Zi (↑(List.length l) : Int), Zi (IntKind.wrap IntKind.i64 ((↑x2.1 : Int) + 1))]) ([]))))) (.out (AV.bool true) [] (AV.bool true) [])))))
    (by kernel_rfl) ?_
  refine k_br (fun h0 => ?_) (fun h0 => ?_)
  · have g0 := cnd_bne_t h0
    exact k_out (Ent.of_eq (by simp_all))
  · have g0 := cnd_bne_f h0
    refine k_loop (fun _ hs => hs.le (⟨.refl _, .refl _, .refl _, .refl _, trivial⟩) (trivial)) (fun x2 => ?_)
    try (have q2 := x2.2; dsimp only at q2)
    refine k_br (fun h3 => ?_) (fun h3 => ?_)
    · have g3 := cnd_dec_t h3
      refine k_req (by omega) ?_
      refine k_req (by omega) ?_
      refine k_br (fun h6 => ?_) (fun h6 => ?_)
      · have g6 := cnd_bne_t h6
        try simp only [Int.toNat_natCast] at g6
        exact k_out (Ent.of_eq (by simp_all))
      · have g6 := cnd_bne_f h6
        try simp only [Int.toNat_natCast] at g6
        exact k_again (⟨x2.1 + 1, by omega⟩) (fun _ hs => hs.le (⟨.refl _, .refl _, .refl _, inc_ent (by omega), trivial⟩) (trivial)) (by dsimp only; omega)
    · have g3 := cnd_dec_f h3
      exact k_out (Ent.of_eq rfl)

theorem xscalar_c (b : Bas) (x : Int) : Pure Tryz.prog gl0 111 [b.av, .int .i64 x] (.bool (scB b x)) := by
  refine pure_sk (own := ow0) Tryz.func111 (by kernel_rfl) mixed (by kernel_rfl)
    (.out (AV.bool (decide (x ≥ 0) && decide (x < (Bas.gr b).2))) [] (AV.bool (scB b x)) [])
    (by kernel_rfl) ?_
  exact k_out (Ent.refl _)

theorem r33scalar_c (b : Bas) (x : Int) : Pure Tryz.prog gl0 180 [b.gr.av, .int .i64 x] (.bool (scB b x)) := by
  refine pure_sk (own := ow0) Tryz.func180 (by kernel_rfl) mixed (by kernel_rfl)
    (.out (AV.bool (decide (x ≥ 0) && decide (x < (Bas.gr b).2))) [] (AV.bool (scB b x)) [])
    (by kernel_rfl) ?_
  exact k_out (Ent.refl _)

theorem xspan_f (s : Spend) : Pure Tryz.prog gl0 109 [s.av] (.tup [.int .i64 (fromS s), .int .i64 (toS s), .bool (okS s)]) := xspan_c s

theorem secret_c (b : Bas) (s t : Spend) (leaf : Int) (hw : b.gr.W) (hs : s.nl ≤ 1000) (ht : t.nl ≤ 1000) (bs : s.By) (bt : t.By) : Pure Tryz.prog gl0 44 [b.av, s.av, t.av, .int .i64 leaf] (.tup [.int .i64 (secR b s t leaf).1, .int .i64 (secR b s t leaf).2]) := by
  have c1 := bvalid_c b hw
  have c2 := formed2_c s t
  have c3 := chall_c b s.coin s.level s.index s.cxt hw bs.root bs.payee
  have c4 := chall_c b t.coin t.level t.index t.cxt hw bt.root bt.payee
  have c5 := xspan_f s
  have c6 := shared_c s t hs ht
  have c7 := fun v h => containsN_c (sharedL s t) v h
  have c8 := find_c t
  have c9 := xscalar_c b
  have sl := sharedL_len s t
  have L := fun h h' => leaf_w (s := s) (leaf := leaf) h h'
  have hq := fun h => validB_q (b := b) h
  have k1 := fun h h' => chS_of (b := b) (s := s) h h'
  have k2 := fun h h' => chS_of (b := b) (s := t) h h'
  refine pure_sk (own := ow0) Tryz.func44 (by kernel_rfl) mixed (by kernel_rfl)
    (let y0 : Nat := (Int.toNat (IntKind.wrap IntKind.i64 (leaf - fromS s))); let y1 : Nat := (Int.toNat (firstI (fun (i : Nat) => t.17 i 0 == s.17 y0 0) t.16 0)); let y2 : AV := (AV.tup [Zi (Prod.fst (secR b s t leaf)), Zi (Prod.snd (secR b s t leaf))]); (.sc (true) 52 ([AV.agg (Bas.cells b)]) (AV.bool (validB b)) (.sc ((!validB b) == false) 98 ([AV.isl 80 2 fun (r k : Nat) => atL (List.getD [Spend.cells s, Spend.cells t] (r + 0) []) k]) (AV.bool (okS s && okS t)) (.br (!validB b || !(okS s && okS t)) (.out (AV.tup [Zi 0, Zi 1]) [] y2 []) (.sc (true) 109 ([AV.agg (Spend.cells s)]) (AV.tup [Zi (fromS s), Zi (toS s), AV.bool (okS s)]) (.br (decide (leaf < fromS s) || decide (leaf ≥ toS s)) (.out (AV.tup [Zi 0, Zi 2]) [] y2 []) (.dc (true) 106 ([AV.agg (Spend.cells s), AV.agg (Spend.cells t)]) (il IntKind.i64 (sharedL s t)) (.sc (true) 72 ([AV.isl 1 (List.length (sharedL s t)) fun (i x : Nat) => Zi (List.getD (sharedL s t) i (0 : Int)), Zi leaf]) (AV.bool (decide (leaf ∈ sharedL s t))) (.br (!decide (leaf ∈ sharedL s t)) (.out (AV.tup [Zi 0, Zi 7]) [] y2 []) (.req ((0 : Int) ≤ IntKind.wrap IntKind.i64 (leaf - fromS s) ∧ IntKind.wrap IntKind.i64 (leaf - fromS s) < (↑s.16 : Int)) (.sc (true) 110 ([AV.agg (Spend.cells t), Zi (s.17 y0 0)]) (Zi (firstI (fun (i : Nat) => Spend.lf t i 0 == s.17 y0 0) (Spend.nl t) 0)) (.req ((0 : Int) ≤ firstI (fun (i : Nat) => t.17 i 0 == s.17 y0 0) t.16 0 ∧ firstI (fun (i : Nat) => t.17 i 0 == s.17 y0 0) t.16 0 < (↑t.16 : Int)) (.sc (true) 111 ([AV.agg (Bas.cells b), Zi (s.17 y0 1)]) (AV.bool (scB b (s.17 y0 1))) (.sc ((!scB b (s.17 y0 1)) == false) 111 ([AV.agg (Bas.cells b), Zi (s.17 y0 2)]) (AV.bool (scB b (s.17 y0 2))) (.sc ((!scB b (s.17 y0 1) || !scB b (s.17 y0 2)) == false) 111 ([AV.agg (Bas.cells b), Zi (t.17 y1 1)]) (AV.bool (scB b (t.17 y1 1))) (.sc ((!scB b (s.17 y0 1) || !scB b (s.17 y0 2) || !scB b (t.17 y1 1)) == false) 111 ([AV.agg (Bas.cells b), Zi (t.17 y1 2)]) (AV.bool (scB b (t.17 y1 2))) (.br (!scB b (s.17 y0 1) || !scB b (s.17 y0 2) || !scB b (t.17 y1 1) || !scB b (t.17 y1 2)) (.out (AV.tup [Zi 0, Zi 2]) [] y2 []) (.sc (true) 54 ([AV.agg (Bas.cells b), AV.agg (Zi s.1 :: Zi s.2 :: Zi s.3 :: Zi s.4 :: Zi s.5 :: (u8c s.6 ++ [Zi s.7, Zi s.8, Zi s.9, Zi s.10])), AV.agg [Zi s.11, Zi s.12], AV.agg (u8c s.13 ++ [Zi s.14, Zi s.15])]) (AV.tup [Zi (chalK b (Spend.coin s) (Spend.level s) (Spend.index s) (Spend.cxt s)), Zi (chalE b (Spend.coin s) (Spend.level s) (Spend.index s) (Spend.cxt s))]) (.sc (true) 54 ([AV.agg (Bas.cells b), AV.agg (Zi t.1 :: Zi t.2 :: Zi t.3 :: Zi t.4 :: Zi t.5 :: (u8c t.6 ++ [Zi t.7, Zi t.8, Zi t.9, Zi t.10])), AV.agg [Zi t.11, Zi t.12], AV.agg (u8c t.13 ++ [Zi t.14, Zi t.15])]) (AV.tup [Zi (chalK b (Spend.coin t) (Spend.level t) (Spend.index t) (Spend.cxt t)), Zi (chalE b (Spend.coin t) (Spend.level t) (Spend.index t) (Spend.cxt t))]) (.br (chalE b (Spend.coin s) s.11 s.12 (Spend.cxt s) != 0) (.out (AV.tup [Zi 0, Zi (chalE b (Spend.coin s) s.11 s.12 (Spend.cxt s))]) [] y2 []) (.br (chalE b (Spend.coin t) t.11 t.12 (Spend.cxt t) != 0) (.out (AV.tup [Zi 0, Zi (chalE b (Spend.coin t) t.11 t.12 (Spend.cxt t))]) [] y2 []) (.br (chalK b (Spend.coin s) s.11 s.12 (Spend.cxt s) == chalK b (Spend.coin t) t.11 t.12 (Spend.cxt t)) (.out (AV.tup [Zi 0, Zi 20]) [] y2 []) (.br (s.17 y0 2 == t.17 y1 2) (.out (AV.tup [Zi 0, Zi 10]) [] y2 []) (.req ((Bas.gr b).2 ≠ (0 : Int)) (.sc (true) 112 ([Zi (Int.tmod (IntKind.wrap IntKind.i64 (IntKind.wrap IntKind.i64 (s.17 y0 2 - t.17 y1 2) + (Bas.gr b).2)) (Bas.gr b).2), Zi (Bas.gr b).2]) (AV.tup [Zi (invF (Int.tmod (IntKind.wrap IntKind.i64 (IntKind.wrap IntKind.i64 (s.17 y0 2 - t.17 y1 2) + (Bas.gr b).2)) (Bas.gr b).2) (Bas.gr b).2), Zi (if Int.gcd (Int.tmod (IntKind.wrap IntKind.i64 (IntKind.wrap IntKind.i64 (s.17 y0 2 - t.17 y1 2) + (Bas.gr b).2)) (Bas.gr b).2) (Bas.gr b).2 = 1 then (0 : Int) else (10 : Int))]) (.req ((Bas.gr b).2 ≠ (0 : Int)) (.sc (true) 113 ([Zi (Int.tmod (IntKind.wrap IntKind.i64 (IntKind.wrap IntKind.i64 (s.17 y0 1 - t.17 y1 1) + (Bas.gr b).2)) (Bas.gr b).2), Zi (invF (Int.tmod (IntKind.wrap IntKind.i64 (IntKind.wrap IntKind.i64 (s.17 y0 2 - t.17 y1 2) + (Bas.gr b).2)) (Bas.gr b).2) (Bas.gr b).2), Zi (Bas.gr b).2]) (AV.tup [Zi (okv (chkI (Int.tmod (IntKind.wrap IntKind.i64 (IntKind.wrap IntKind.i64 (s.17 y0 1 - t.17 y1 1) + (Bas.gr b).2)) (Bas.gr b).2) (invF (Int.tmod (IntKind.wrap IntKind.i64 (IntKind.wrap IntKind.i64 (s.17 y0 2 - t.17 y1 2) + (Bas.gr b).2)) (Bas.gr b).2) (Bas.gr b).2) (Bas.gr b).2) (Int.tmod (IntKind.wrap IntKind.i64 (IntKind.wrap IntKind.i64 (s.17 y0 1 - t.17 y1 1) + (Bas.gr b).2)) (Bas.gr b).2 * invF (Int.tmod (IntKind.wrap IntKind.i64 (IntKind.wrap IntKind.i64 (s.17 y0 2 - t.17 y1 2) + (Bas.gr b).2)) (Bas.gr b).2) (Bas.gr b).2 % (Bas.gr b).2)), Zi (chkI (Int.tmod (IntKind.wrap IntKind.i64 (IntKind.wrap IntKind.i64 (s.17 y0 1 - t.17 y1 1) + (Bas.gr b).2)) (Bas.gr b).2) (invF (Int.tmod (IntKind.wrap IntKind.i64 (IntKind.wrap IntKind.i64 (s.17 y0 2 - t.17 y1 2) + (Bas.gr b).2)) (Bas.gr b).2) (Bas.gr b).2) (Bas.gr b).2)]) (.out (AV.tup [Zi (okv (chkI (Int.tmod (IntKind.wrap IntKind.i64 (IntKind.wrap IntKind.i64 (s.17 y0 1 - t.17 y1 1) + (Bas.gr b).2)) (Bas.gr b).2) (invF (Int.tmod (IntKind.wrap IntKind.i64 (IntKind.wrap IntKind.i64 (s.17 y0 2 - t.17 y1 2) + (Bas.gr b).2)) (Bas.gr b).2) (Bas.gr b).2) (Bas.gr b).2) (Int.tmod (IntKind.wrap IntKind.i64 (IntKind.wrap IntKind.i64 (s.17 y0 1 - t.17 y1 1) + (Bas.gr b).2)) (Bas.gr b).2 * invF (Int.tmod (IntKind.wrap IntKind.i64 (IntKind.wrap IntKind.i64 (s.17 y0 2 - t.17 y1 2) + (Bas.gr b).2)) (Bas.gr b).2) (Bas.gr b).2 % (Bas.gr b).2)), Zi 0]) [] y2 []))))))))))))))))))))))))))))
    (by kernel_rfl) ?_
  refine k_sc (c1) ?_
  refine k_scg (fun h1 => c2) ?_
  refine k_br (fun h2 => ?_) (fun h2 => ?_)
  · have g2 := (cnd_or_t (cnd_not_t cnd_id_f) (cnd_not_t (cnd_and_f cnd_id_f cnd_id_f))) h2
    exact k_out (Ent.of_eq (by rw [sec_1 g2]))
  · have g2 := (cnd_or_f (cnd_not_f cnd_id_t) (cnd_not_f (cnd_and_t cnd_id_t cnd_id_t))) h2
    refine k_sc (c5) ?_
    refine k_br (fun h5 => ?_) (fun h5 => ?_)
    · have g5 := (cnd_or_t cnd_dec_t cnd_dec_t) h5
      exact k_out (Ent.of_eq (by rw [sec_2 g2 g5]))
    · have g5 := (cnd_or_f cnd_dec_f cnd_dec_f) h5
      refine k_dc (c6) ?_
      refine k_sc (c7 (leaf) (by omega)) ?_
      refine k_br (fun h9 => ?_) (fun h9 => ?_)
      · have g9 := (cnd_not_t cnd_dec_f) h9
        exact k_out (Ent.of_eq (by rw [sec_3 g2 (by omega) g9]))
      · have g9 := (cnd_not_f cnd_dec_t) h9
        refine k_req (⟨(L g2.2.1 (by omega)).1, (L g2.2.1 (by omega)).2.1⟩) ?_
        refine k_sc (c8 (s.17 (Int.toNat (IntKind.wrap IntKind.i64 (leaf - fromS s))) (0)) (by omega)) ?_
        refine k_req (by have m := mate_lt ((shared_has g2.2.1 (by omega)).1 g9).2; rw [(L g2.2.1 (by omega)).2.2, m.2]; omega) ?_
        refine k_sc (c9 (s.17 (Int.toNat (IntKind.wrap IntKind.i64 (leaf - fromS s))) (1))) ?_
        refine k_scg (fun h15 => c9 (s.17 (Int.toNat (IntKind.wrap IntKind.i64 (leaf - fromS s))) (2))) ?_
        refine k_scg (fun h16 => c9 (t.17 (Int.toNat (firstI (fun (i : Nat) => t.17 i (0) == s.17 (Int.toNat (IntKind.wrap IntKind.i64 (leaf - fromS s))) (0)) t.16 (0))) (1))) ?_
        refine k_scg (fun h17 => c9 (t.17 (Int.toNat (firstI (fun (i : Nat) => t.17 i (0) == s.17 (Int.toNat (IntKind.wrap IntKind.i64 (leaf - fromS s))) (0)) t.16 (0))) (2))) ?_
        refine k_br (fun h18 => ?_) (fun h18 => ?_)
        · have g18 := (cnd_or_t (cnd_or_t (cnd_or_t (cnd_not_t cnd_id_f) (cnd_not_t cnd_id_f)) (cnd_not_t cnd_id_f)) (cnd_not_t cnd_id_f)) h18
          exact k_out (by rw [(L g2.2.1 (by omega)).2.2] at g18; exact Ent.of_eq (by rw [sec_4 g2 (by omega) g9 (or4 g18)]))
        · have g18 := (cnd_or_f (cnd_or_f (cnd_or_f (cnd_not_f cnd_id_t) (cnd_not_f cnd_id_t)) (cnd_not_f cnd_id_t)) (cnd_not_f cnd_id_t)) h18
          refine k_sc (c3) ?_
          refine k_sc (c4) ?_
          refine k_br (fun h22 => ?_) (fun h22 => ?_)
          · have g22 := cnd_bne_t h22
            exact k_out ((by exfalso; exact g22 (k1 g2.1 g2.2.1).1))
          · have g22 := cnd_bne_f h22
            refine k_br (fun h24 => ?_) (fun h24 => ?_)
            · have g24 := cnd_bne_t h24
              exact k_out ((by exfalso; exact g24 (k2 g2.1 g2.2.2).1))
            · have g24 := cnd_bne_f h24
              refine k_br (fun h26 => ?_) (fun h26 => ?_)
              · have g26 := cnd_beq_t h26
                exact k_out (by rw [(L g2.2.1 (by omega)).2.2] at g18; rw [(k1 g2.1 g2.2.1).2, (k2 g2.1 g2.2.2).2] at g26; exact Ent.of_eq (by rw [sec_5 g2 (by omega) g9 (and4 g18) g26]))
              · have g26 := cnd_beq_f h26
                refine k_br (fun h28 => ?_) (fun h28 => ?_)
                · have g28 := cnd_beq_t h28
                  exact k_out (by rw [(L g2.2.1 (by omega)).2.2] at g18 g28; rw [(k1 g2.1 g2.2.1).2, (k2 g2.1 g2.2.2).2] at g26; exact Ent.of_eq (by rw [sec_6 g2 (by omega) g9 (and4 g18) g26 g28]))
                · have g28 := cnd_beq_f h28
                  refine k_req (by have := hq g2.1; omega) ?_
                  refine k_sc (winv_c (Int.tmod (IntKind.wrap IntKind.i64 (IntKind.wrap IntKind.i64 (s.17 (Int.toNat (IntKind.wrap IntKind.i64 (leaf - fromS s))) (2) - t.17 (Int.toNat (firstI (fun (i : Nat) => t.17 i (0) == s.17 (Int.toNat (IntKind.wrap IntKind.i64 (leaf - fromS s))) (0)) t.16 (0))) (2)) + (Bas.gr b).2)) (Bas.gr b).2) ((Bas.gr b).2) (by have u := sub_q (scB_t g18.1.1.2) (scB_t g18.2) (hq g2.1).2; rw [u.1]; exact u.2.1) (by have u := sub_q (scB_t g18.1.1.2) (scB_t g18.2) (hq g2.1).2; rw [u.1]; exact u.2.2) ((hq g2.1).2)) ?_
                  refine k_req (by have := hq g2.1; omega) ?_
                  refine k_sc (wmul_c (Int.tmod (IntKind.wrap IntKind.i64 (IntKind.wrap IntKind.i64 (s.17 (Int.toNat (IntKind.wrap IntKind.i64 (leaf - fromS s))) (1) - t.17 (Int.toNat (firstI (fun (i : Nat) => t.17 i (0) == s.17 (Int.toNat (IntKind.wrap IntKind.i64 (leaf - fromS s))) (0)) t.16 (0))) (1)) + (Bas.gr b).2)) (Bas.gr b).2) (invF (Int.tmod (IntKind.wrap IntKind.i64 (IntKind.wrap IntKind.i64 (s.17 (Int.toNat (IntKind.wrap IntKind.i64 (leaf - fromS s))) (2) - t.17 (Int.toNat (firstI (fun (i : Nat) => t.17 i (0) == s.17 (Int.toNat (IntKind.wrap IntKind.i64 (leaf - fromS s))) (0)) t.16 (0))) (2)) + (Bas.gr b).2)) (Bas.gr b).2) (Bas.gr b).2) ((Bas.gr b).2)) ?_
                  exact k_out (by have u := sub_q (scB_t g18.1.1.2) (scB_t g18.2) (hq g2.1).2; have v := sub_q (scB_t g18.1.1.1) (scB_t g18.1.2) (hq g2.1).2; rw [u.1, v.1, chk_ok (hq g2.1).1 (hq g2.1).2 v.2.1 v.2.2 (invF_bound (hq g2.1).1).1 (invF_bound (hq g2.1).1).2]; rw [(L g2.2.1 (by omega)).2.2] at g18 g28 ⊢; rw [(k1 g2.1 g2.2.1).2, (k2 g2.1 g2.2.2).2] at g26; exact Ent.of_eq (by rw [sec_7 g2 (by omega) g9 (and4 g18) g26 g28]; rfl))

end Go.Proofs.YtdaaddkipdmajaaGreatDoor

namespace Go.Proofs.YtdaaddkipdmajaaGreatDoor
open Go Go.Am Go.Sp
set_option maxRecDepth 100000

theorem r33first_c (s : Spend) (h : okS s = true) : Pure Tryz.prog gl0 178 [s.av] (.int .i64 (fromS s)) := by
  have o := okS_all h
  have c1 := rspan_c s.depth s.level s.index o.1
  refine pure_sk (own := ow0) Tryz.func178 (by kernel_rfl) mixed (by kernel_rfl)
    (.sc (true) 63 ([Zi s.4, AV.agg [Zi s.11, Zi s.12]]) (AV.tup [Zi (spanA (Spend.depth s) (Spend.level s) (Spend.index s)), Zi (spanZ (Spend.depth s) (Spend.level s) (Spend.index s))]) (.out (Zi (spanA s.4 s.11 s.12)) [] (Zi (fromS s)) []))
    (by kernel_rfl) ?_
  refine k_sc (c1) ?_
  exact k_out (Ent.of_eq (congrArg _ o.2.2.1.symm))

theorem r33place_c (s : Spend) (v : Int) (hn : s.nl < 9223372036854775808) : Pure Tryz.prog gl0 224 [s.av, .int .i64 v] (.int .i64 (firstI (fun i => s.lf i 0 == v) s.nl 0)) := by
  refine pure_sk (own := ow0) Tryz.func224 (by kernel_rfl) mixed (by kernel_rfl)
    (let y0 : List (Option Ob) := [some ⟨80, 1, true, Rep.lst [Spend.cells s]⟩]; let y1 : AV := (Zi (firstI (fun (i : Nat) => Spend.lf s i 0 == v) (Spend.nl s) 0)); (.loop ({ x : Nat // x ≤ Spend.nl s ∧ (fun (i : Nat) => firstI (fun (i : Nat) => Spend.lf s i 0 == v) (Spend.nl s) 0 = firstI (fun (i : Nat) => Spend.lf s i 0 == v) (Spend.nl s - i) i) x }) (fun (x : { x : Nat // x ≤ Spend.nl s ∧ (fun (i : Nat) => firstI (fun (i : Nat) => Spend.lf s i 0 == v) (Spend.nl s) 0 = firstI (fun (i : Nat) => Spend.lf s i 0 == v) (Spend.nl s - i) i) x }) => mkSt [1, 2, 5] [Zi v, AV.own 0 80 0 0 80, Zi (↑(x.1) : Int)] y0) (fun (x : { x : Nat // x ≤ Spend.nl s ∧ (fun (i : Nat) => firstI (fun (i : Nat) => Spend.lf s i 0 == v) (Spend.nl s) 0 = firstI (fun (i : Nat) => Spend.lf s i 0 == v) (Spend.nl s - i) i) x }) => Spend.nl s - x.1) (⟨0, ⟨Nat.zero_le (Spend.nl s), rfl⟩⟩) ([1, 2, 5]) ([0]) ([Zi v, AV.own 0 80 0 0 80, Zi 0]) (y0) (fun x0 => (.br (decide ((↑x0.1 : Int) < (↑s.16 : Int))) (.req ((0 : Int) ≤ (↑x0.1 : Int) ∧ (↑x0.1 : Int) < (↑s.16 : Int)) (.br (s.17 (Int.toNat (↑x0.1 : Int)) 0 == v) (.out (Zi (↑x0.1 : Int)) [] y1 []) (.again (Again 0 (fun (x : { x : Nat // x ≤ Spend.nl s ∧ (fun (i : Nat) => firstI (fun (i : Nat) => Spend.lf s i 0 == v) (Spend.nl s) 0 = firstI (fun (i : Nat) => Spend.lf s i 0 == v) (Spend.nl s - i) i) x }) => mkSt [1, 2, 5] [Zi v, AV.own 0 80 0 0 80, Zi (↑(x.1) : Int)] y0) (fun (x : { x : Nat // x ≤ Spend.nl s ∧ (fun (i : Nat) => firstI (fun (i : Nat) => Spend.lf s i 0 == v) (Spend.nl s) 0 = firstI (fun (i : Nat) => Spend.lf s i 0 == v) (Spend.nl s - i) i) x }) => Spend.nl s - x.1) x0) ([1, 2, 5]) ([0]) ([Zi v, AV.own 0 80 0 0 80, Zi (IntKind.wrap IntKind.i64 ((↑x0.1 : Int) + 1))]) (y0)))) (.out (Zi (-1)) [] y1 [])))))
    (by kernel_rfl) ?_
  refine k_loop (fun _ hs => hs.le (⟨.refl _, .refl _, .refl _, trivial⟩) (⟨.refl _, trivial⟩)) (fun x0 => ?_)
  try (have q0 := x0.2; dsimp only at q0)
  refine k_br (fun h1 => ?_) (fun h1 => ?_)
  · have g1 := cnd_dec_t h1
    refine k_req (by omega) ?_
    refine k_br (fun h3 => ?_) (fun h3 => ?_)
    · have g3 := cnd_beq_t h3
      try simp only [Int.toNat_natCast] at g3
      exact k_out (Ent.of_eq (congrArg _ (first_hit x0.2.2 (by omega) (by simp only [beq_iff_eq]; exact g3))))
    · have g3 := cnd_beq_f h3
      try simp only [Int.toNat_natCast] at g3
      exact k_again (⟨x0.1 + 1, by omega, first_next x0.2.2 (by omega) (by simp only [beq_eq_false_iff_ne]; exact g3)⟩) (fun _ hs => hs.le (⟨.refl _, .refl _, inc_ent (by omega), trivial⟩) (⟨.refl _, trivial⟩)) (by dsimp only; omega)
  · have g1 := cnd_dec_f h1
    exact k_out (Ent.of_eq (congrArg _ (first_miss x0.2.2 (by omega))))

theorem r33partner_c (s t : Spend) (j : Int) (k0 : 0 ≤ j) (k1 : j < s.nl) (hn : t.nl < 9223372036854775808) : Pure Tryz.prog gl0 179 [s.av, t.av, .int .i64 j] (.int .i64 (partI s t j.toNat)) := by
  have c1 := r33place_c t
  refine pure_sk (own := ow0) Tryz.func179 (by kernel_rfl) mixed (by kernel_rfl)
    (.br (s.5 != t.5) (.out (Zi (-1)) [] (Zi (partI s t (Int.toNat j))) []) (.req ((0 : Int) ≤ j ∧ j < (↑s.16 : Int)) (.sc (true) 224 ([AV.agg (Spend.cells t), Zi (s.17 (Int.toNat j) 0)]) (Zi (firstI (fun (i : Nat) => Spend.lf t i 0 == s.17 (Int.toNat j) 0) (Spend.nl t) 0)) (.out (Zi (firstI (fun (i : Nat) => t.17 i 0 == s.17 (Int.toNat j) 0) t.16 0)) [] (Zi (partI s t (Int.toNat j))) []))))
    (by kernel_rfl) ?_
  refine k_br (fun h0 => ?_) (fun h0 => ?_)
  · have g0 := cnd_bne_t h0
    exact k_out (Ent.of_eq (congrArg _ (if_neg g0).symm))
  · have g0 := cnd_bne_f h0
    refine k_req (⟨k0, k1⟩) ?_
    refine k_sc (c1 (s.17 (Int.toNat j) (0)) (by assumption)) ?_
    exact k_out (Ent.of_eq (congrArg _ (if_pos g0).symm))

theorem r33chal_c (b : Bas) (s : Spend) (bs : s.By) (hq : 0 < b.gr.q) (hq' : b.gr.q < 2305843009213693952) : Pure Tryz.prog gl0 108 [b.av, s.av] (.int .i64 (chS b s)) := by
  have c1 := rchal_c b s.coin s.level s.index s.cxt bs.root bs.payee hq hq'
  refine pure_sk (own := ow0) Tryz.func108 (by kernel_rfl) mixed (by kernel_rfl)
    (.sc (true) 47 ([AV.agg (Bas.cells b), AV.agg (Zi s.1 :: Zi s.2 :: Zi s.3 :: Zi s.4 :: Zi s.5 :: (u8c s.6 ++ [Zi s.7, Zi s.8, Zi s.9, Zi s.10])), AV.agg [Zi s.11, Zi s.12], AV.agg (u8c s.13 ++ [Zi s.14, Zi s.15])]) (Zi (chalN (Grp.q (Bas.gr b)) (Spend.coin s) (Spend.level s) (Spend.index s) (Spend.cxt s))) (.out (Zi (chalN (Bas.gr b).2 (Spend.coin s) s.11 s.12 (Spend.cxt s))) [] (Zi (chS b s)) []))
    (by kernel_rfl) ?_
  refine k_sc (c1) ?_
  exact k_out (Ent.refl _)

theorem rsecret_c (b : Bas) (s t : Spend) (leaf : Int) (hl : leaf ≤ 9223372036854775807) (hw : b.gr.W) (hs : s.nl ≤ 1000) (ht : t.nl ≤ 1000) (bs : s.By) (bt : t.By) : Pure Tryz.prog gl0 102 [b.av, s.av, t.av, .int .i64 leaf] (.tup [.int .i64 (secR b s t leaf).1, .int .i64 (secR b s t leaf).2]) := by
  have c1 := r11valid_c b hw
  have c2 := rformed_c s
  have c3 := rformed_c t
  have c4 := fun h => r33first_c s h
  have c5 := fun j h h' => r33partner_c s t j h h' (by omega)
  have c6 := r33scalar_c b
  have c7 := fun h h' => r33chal_c b s bs h h'
  have c8 := fun h h' => r33chal_c b t bt h h'
  have hq := fun h => validB_q (b := b) h
  have lr := fun h => leaf_r (s := s) (leaf := leaf) h hl
  have L := fun h h' => leaf_w (s := s) (leaf := leaf) h h'
  refine pure_sk (own := ow0) Tryz.func102 (by kernel_rfl) mixed (by kernel_rfl)
    (let y0 : Nat := (Int.toNat (IntKind.wrap IntKind.i64 (leaf - fromS s))); let y1 : AV := (AV.tup [Zi (Prod.fst (secR b s t leaf)), Zi (Prod.snd (secR b s t leaf))]); let y2 : Nat := (Int.toNat (partI s t y0)); let y3 : List AV := [Zi (Bas.gr b).1, Zi (Bas.gr b).2, Zi (Bas.gr b).3]; (.sc (true) 19 ([AV.agg (Bas.cells b)]) (AV.bool (validB b)) (.sc ((!validB b) == false) 42 ([AV.agg (Spend.cells s)]) (AV.bool (okS s)) (.sc ((!validB b || !okS s) == false) 42 ([AV.agg (Spend.cells t)]) (AV.bool (okS t)) (.br (!validB b || !okS s || !okS t) (.out (AV.tup [Zi 0, Zi 1]) [] y1 []) (.sc (true) 178 ([AV.agg (Spend.cells s)]) (Zi (fromS s)) (.br (decide (leaf < 0) || decide (IntKind.wrap IntKind.i64 (leaf - fromS s) < 0) || decide (IntKind.wrap IntKind.i64 (leaf - fromS s) ≥ (↑s.16 : Int))) (.out (AV.tup [Zi 0, Zi 2]) [] y1 []) (.sc (true) 179 ([AV.agg (Spend.cells s), AV.agg (Spend.cells t), Zi (IntKind.wrap IntKind.i64 (leaf - fromS s))]) (Zi (partI s t y0)) (.br (decide (partI s t y0 < 0)) (.out (AV.tup [Zi 0, Zi 7]) [] y1 []) (.req ((0 : Int) ≤ IntKind.wrap IntKind.i64 (leaf - fromS s) ∧ IntKind.wrap IntKind.i64 (leaf - fromS s) < (↑s.16 : Int)) (.req ((0 : Int) ≤ partI s t y0 ∧ partI s t y0 < (↑t.16 : Int)) (.sc (true) 180 ([AV.agg y3, Zi (s.17 y0 1)]) (AV.bool (scB b (s.17 y0 1))) (.sc ((!scB b (s.17 y0 1)) == false) 180 ([AV.agg y3, Zi (s.17 y0 2)]) (AV.bool (scB b (s.17 y0 2))) (.sc ((!scB b (s.17 y0 1) || !scB b (s.17 y0 2)) == false) 180 ([AV.agg y3, Zi (t.17 y2 1)]) (AV.bool (scB b (t.17 y2 1))) (.sc ((!scB b (s.17 y0 1) || !scB b (s.17 y0 2) || !scB b (t.17 y2 1)) == false) 180 ([AV.agg y3, Zi (t.17 y2 2)]) (AV.bool (scB b (t.17 y2 2))) (.br (!scB b (s.17 y0 1) || !scB b (s.17 y0 2) || !scB b (t.17 y2 1) || !scB b (t.17 y2 2)) (.out (AV.tup [Zi 0, Zi 2]) [] y1 []) (.sc (true) 108 ([AV.agg (Bas.cells b), AV.agg (Spend.cells s)]) (Zi (chS b s)) (.sc (true) 108 ([AV.agg (Bas.cells b), AV.agg (Spend.cells t)]) (Zi (chS b t)) (.br (chS b s == chS b t) (.out (AV.tup [Zi 0, Zi 20]) [] y1 []) (.br (s.17 y0 2 == t.17 y2 2) (.out (AV.tup [Zi 0, Zi 10]) [] y1 []) (.req ((Bas.gr b).2 ≠ (0 : Int)) (.sc (true) 181 ([Zi (Int.tmod (IntKind.wrap IntKind.i64 (IntKind.wrap IntKind.i64 (s.17 y0 2 + (Bas.gr b).2) - t.17 y2 2)) (Bas.gr b).2), Zi (Bas.gr b).2]) (AV.tup [Zi (invF (Int.tmod (IntKind.wrap IntKind.i64 (IntKind.wrap IntKind.i64 (s.17 y0 2 + (Bas.gr b).2) - t.17 y2 2)) (Bas.gr b).2) (Bas.gr b).2), AV.bool (decide (Int.gcd (Int.tmod (IntKind.wrap IntKind.i64 (IntKind.wrap IntKind.i64 (s.17 y0 2 + (Bas.gr b).2) - t.17 y2 2)) (Bas.gr b).2) (Bas.gr b).2 = 1))]) (.req ((Bas.gr b).2 ≠ (0 : Int)) (.sc (true) 64 ([Zi (Int.tmod (IntKind.wrap IntKind.i64 (IntKind.wrap IntKind.i64 (s.17 y0 1 + (Bas.gr b).2) - t.17 y2 1)) (Bas.gr b).2), Zi (invF (Int.tmod (IntKind.wrap IntKind.i64 (IntKind.wrap IntKind.i64 (s.17 y0 2 + (Bas.gr b).2) - t.17 y2 2)) (Bas.gr b).2) (Bas.gr b).2), Zi (Bas.gr b).2]) (Zi (Int.tmod (IntKind.wrap IntKind.i64 (IntKind.wrap IntKind.i64 (s.17 y0 1 + (Bas.gr b).2) - t.17 y2 1)) (Bas.gr b).2 * invF (Int.tmod (IntKind.wrap IntKind.i64 (IntKind.wrap IntKind.i64 (s.17 y0 2 + (Bas.gr b).2) - t.17 y2 2)) (Bas.gr b).2) (Bas.gr b).2 % (Bas.gr b).2)) (.out (AV.tup [Zi (Int.tmod (IntKind.wrap IntKind.i64 (IntKind.wrap IntKind.i64 (s.17 y0 1 + (Bas.gr b).2) - t.17 y2 1)) (Bas.gr b).2 * invF (Int.tmod (IntKind.wrap IntKind.i64 (IntKind.wrap IntKind.i64 (s.17 y0 2 + (Bas.gr b).2) - t.17 y2 2)) (Bas.gr b).2) (Bas.gr b).2 % (Bas.gr b).2), Zi 0]) [] y1 [])))))))))))))))))))))))))
    (by kernel_rfl) ?_
  refine k_sc (c1) ?_
  refine k_scg (fun h1 => c2) ?_
  refine k_scg (fun h2 => c3) ?_
  refine k_br (fun h3 => ?_) (fun h3 => ?_)
  · have g3 := (cnd_or_t (cnd_or_t (cnd_not_t cnd_id_f) (cnd_not_t cnd_id_f)) (cnd_not_t cnd_id_f)) h3
    exact k_out (Ent.of_eq (by rw [sec_1 (or_assoc.1 g3)]))
  · have g3 := (cnd_or_f (cnd_or_f (cnd_not_f cnd_id_t) (cnd_not_f cnd_id_t)) (cnd_not_f cnd_id_t)) h3
    refine k_sc (c4 (g3.1.2)) ?_
    refine k_br (fun h6 => ?_) (fun h6 => ?_)
    · have g6 := (cnd_or_t (cnd_or_t cnd_dec_t cnd_dec_t) cnd_dec_t) h6
      exact k_out (Ent.of_eq (by rw [sec_2 (and_assoc.1 g3) ((lr g3.1.2).1 g6)]))
    · have g6 := (cnd_or_f (cnd_or_f cnd_dec_f cnd_dec_f) cnd_dec_f) h6
      refine k_sc (c5 (IntKind.wrap IntKind.i64 (leaf - fromS s)) (by omega) (by omega)) ?_
      refine k_br (fun h9 => ?_) (fun h9 => ?_)
      · have g9 := cnd_dec_t h9
        exact k_out (by have nl : ¬ (leaf < fromS s ∨ toS s ≤ leaf) := (fun hh => by have := (lr g3.1.2).2 hh; omega); rw [(L g3.1.2 nl).2.2] at g9; exact Ent.of_eq (by rw [sec_3 (and_assoc.1 g3) nl (fun hm => (part_has g3.1.2 nl).2 hm g9)]))
      · have g9 := cnd_dec_f h9
        refine k_req (by omega) ?_
        refine k_req (by have k := sec_k g3.1.2 hl g6 g9; rw [k.2.2.1]; exact k.2.2.2.2) ?_
        refine k_sc (c6 (s.17 (Int.toNat (IntKind.wrap IntKind.i64 (leaf - fromS s))) (1))) ?_
        refine k_scg (fun h14 => c6 (s.17 (Int.toNat (IntKind.wrap IntKind.i64 (leaf - fromS s))) (2))) ?_
        refine k_scg (fun h15 => c6 (t.17 (Int.toNat (partI s t (Int.toNat (IntKind.wrap IntKind.i64 (leaf - fromS s))))) (1))) ?_
        refine k_scg (fun h16 => c6 (t.17 (Int.toNat (partI s t (Int.toNat (IntKind.wrap IntKind.i64 (leaf - fromS s))))) (2))) ?_
        refine k_br (fun h17 => ?_) (fun h17 => ?_)
        · have g17 := (cnd_or_t (cnd_or_t (cnd_or_t (cnd_not_t cnd_id_f) (cnd_not_t cnd_id_f)) (cnd_not_t cnd_id_f)) (cnd_not_t cnd_id_f)) h17
          exact k_out (by have k := sec_k g3.1.2 hl g6 g9; rw [k.2.2.1, k.2.2.2.1] at g17; exact Ent.of_eq (by rw [sec_4 (and_assoc.1 g3) k.1 k.2.1 (or4 g17)]))
        · have g17 := (cnd_or_f (cnd_or_f (cnd_or_f (cnd_not_f cnd_id_t) (cnd_not_f cnd_id_t)) (cnd_not_f cnd_id_t)) (cnd_not_f cnd_id_t)) h17
          refine k_sc (c7 ((hq g3.1.1).1) ((hq g3.1.1).2)) ?_
          refine k_sc (c8 ((hq g3.1.1).1) ((hq g3.1.1).2)) ?_
          refine k_br (fun h21 => ?_) (fun h21 => ?_)
          · have g21 := cnd_beq_t h21
            exact k_out (by have k := sec_k g3.1.2 hl g6 g9; rw [k.2.2.1, k.2.2.2.1] at g17; exact Ent.of_eq (by rw [sec_5 (and_assoc.1 g3) k.1 k.2.1 (and4 g17) g21]))
          · have g21 := cnd_beq_f h21
            refine k_br (fun h23 => ?_) (fun h23 => ?_)
            · have g23 := cnd_beq_t h23
              exact k_out (by have k := sec_k g3.1.2 hl g6 g9; rw [k.2.2.1, k.2.2.2.1] at g17 g23; exact Ent.of_eq (by rw [sec_6 (and_assoc.1 g3) k.1 k.2.1 (and4 g17) g21 g23]))
            · have g23 := cnd_beq_f h23
              refine k_req (by have := hq g3.1.1; omega) ?_
              refine k_sc (rinv_c (Int.tmod (IntKind.wrap IntKind.i64 (IntKind.wrap IntKind.i64 (s.17 (Int.toNat (IntKind.wrap IntKind.i64 (leaf - fromS s))) (2) + (Bas.gr b).2) - t.17 (Int.toNat (partI s t (Int.toNat (IntKind.wrap IntKind.i64 (leaf - fromS s))))) (2))) (Bas.gr b).2) ((Bas.gr b).2) (by have u := sub_r (scB_t g17.1.1.2) (scB_t g17.2) (hq g3.1.1).2; rw [u.1]; exact u.2.1) (by have u := sub_r (scB_t g17.1.1.2) (scB_t g17.2) (hq g3.1.1).2; rw [u.1]; exact u.2.2) ((hq g3.1.1).2)) ?_
              refine k_req (by have := hq g3.1.1; omega) ?_
              refine k_sc (rmul_c (Int.tmod (IntKind.wrap IntKind.i64 (IntKind.wrap IntKind.i64 (s.17 (Int.toNat (IntKind.wrap IntKind.i64 (leaf - fromS s))) (1) + (Bas.gr b).2) - t.17 (Int.toNat (partI s t (Int.toNat (IntKind.wrap IntKind.i64 (leaf - fromS s))))) (1))) (Bas.gr b).2) (invF (Int.tmod (IntKind.wrap IntKind.i64 (IntKind.wrap IntKind.i64 (s.17 (Int.toNat (IntKind.wrap IntKind.i64 (leaf - fromS s))) (2) + (Bas.gr b).2) - t.17 (Int.toNat (partI s t (Int.toNat (IntKind.wrap IntKind.i64 (leaf - fromS s))))) (2))) (Bas.gr b).2) (Bas.gr b).2) ((Bas.gr b).2) (by have u := sub_r (scB_t g17.1.1.1) (scB_t g17.1.2) (hq g3.1.1).2; rw [u.1]; exact u.2.1) (by have u := sub_r (scB_t g17.1.1.1) (scB_t g17.1.2) (hq g3.1.1).2; rw [u.1]; exact u.2.2) ((invF_bound (hq g3.1.1).1).1) ((invF_bound (hq g3.1.1).1).2) ((hq g3.1.1).2)) ?_
              exact k_out (by have u := sub_r (scB_t g17.1.1.2) (scB_t g17.2) (hq g3.1.1).2; have v := sub_r (scB_t g17.1.1.1) (scB_t g17.1.2) (hq g3.1.1).2; rw [u.1, v.1]; have k := sec_k g3.1.2 hl g6 g9; rw [k.2.2.1, k.2.2.2.1] at g17 g23 ⊢; exact Ent.of_eq (by rw [sec_7 (and_assoc.1 g3) k.1 k.2.1 (and4 g17) g21 g23]))

end Go.Proofs.YtdaaddkipdmajaaGreatDoor

namespace Go.Proofs.YtdaaddkipdmajaaGreatDoor
open Go Go.Am Go.Sp
set_option maxRecDepth 100000

abbrev kFE50 : List AV := [Zi 0, Zi 0, Zi 0, Zi 0, Zi 8, Zb 0, Zb 0, Zb 0, Zb 0, Zb 0, Zb 0, Zb 0, Zb 0, Zb 0, Zb 0, Zb 0, Zb 0, Zb 0, Zb 0, Zb 0, Zb 0, Zb 0, Zb 0, Zb 0, Zb 0, Zb 0, Zb 0, Zb 0, Zb 0, Zb 0, Zb 0, Zb 0, Zb 0, Zb 0, Zb 0, Zb 0, Zb 0, Zi 0, Zi 0, Zi 0, Zi 0]
theorem few33x_c (s : Spend) : Pure Tryz.prog gl0 97 [s.av] (.bool (!fewB s)) := by
  refine pure_sk (own := ow0) Tryz.func97 (by kernel_rfl) mixed (by kernel_rfl)
    (.out (AV.bool (decide ((↑s.16 : Int) > 40) || decide ((↑s.19 : Int) > 20))) [] (AV.bool !fewB s) [])
    (by kernel_rfl) ?_
  exact k_out (Ent.of_eq (congrArg _ (by rw [fewB, Bool.not_and, ← decide_not, ← decide_not]; congr 1 <;> exact decide_eq_decide.2 (by omega))))

theorem indexS_w (F : FuncId) (S : Nat → Spend) (n : Nat) (p : Nat → Bool) (hn : n < 9223372036854775808) (hc : ∀ i, i < n → Pure Tryz.prog gl0 F [(S i).av] (.bool (p i))) : Pure Tryz.prog gl0 174 [.isl 80 n (fun i j => atL (S i).cells j), .fn (.func F) [] []] (.int .i64 (firstI p n 0)) := by
  refine pure_sk (own := ow0) Tryz.func174 (by kernel_rfl) mixed (by kernel_rfl)
    (.loop ({ x : Nat // x ≤ n ∧ (fun (i : Nat) => firstI p n 0 = firstI p (n - i) i) x }) (fun (x : { x : Nat // x ≤ n ∧ (fun (i : Nat) => firstI p n 0 = firstI p (n - i) i) x }) => mkSt [0, 1, 7, 8] [AV.isl 80 n fun (i j : Nat) => atL (Spend.cells (S i)) j, AV.fn (Fn.func F) [] [], Zi (↑n : Int), Zi (↑(x.1) : Int)] []) (fun (x : { x : Nat // x ≤ n ∧ (fun (i : Nat) => firstI p n 0 = firstI p (n - i) i) x }) => n - x.1) (⟨0, ⟨Nat.zero_le n, rfl⟩⟩) ([0, 1, 7, 8]) ([]) ([AV.isl 80 n fun (i j : Nat) => atL (Spend.cells (S i)) j, AV.fn (Fn.func F) [] [], Zi (↑n : Int), Zi 0]) ([]) (fun x0 => (.br (decide ((↑x0.1 : Int) < (↑n : Int))) (.req ((0 : Int) ≤ (↑x0.1 : Int) ∧ (↑x0.1 : Int) < (↑n : Int)) (.sc (true) F ([AV.agg (Spend.cells (S (Int.toNat (↑(x0.1) : Int))))]) (AV.bool (p (Int.toNat (↑(x0.1) : Int)))) (.br (p (Int.toNat (↑x0.1 : Int))) (.out (Zi (↑x0.1 : Int)) [] (Zi (firstI p n 0)) []) (.again (Again 0 (fun (x : { x : Nat // x ≤ n ∧ (fun (i : Nat) => firstI p n 0 = firstI p (n - i) i) x }) => mkSt [0, 1, 7, 8] [AV.isl 80 n fun (i j : Nat) => atL (Spend.cells (S i)) j, AV.fn (Fn.func F) [] [], Zi (↑n : Int), Zi (↑(x.1) : Int)] []) (fun (x : { x : Nat // x ≤ n ∧ (fun (i : Nat) => firstI p n 0 = firstI p (n - i) i) x }) => n - x.1) x0) ([0, 1, 7, 8]) ([]) ([AV.isl 80 n fun (i j : Nat) => atL (Spend.cells (S i)) j, AV.fn (Fn.func F) [] [], Zi (↑n : Int), Zi (IntKind.wrap IntKind.i64 ((↑x0.1 : Int) + 1))]) ([]))))) (.out (Zi (-1)) [] (Zi (firstI p n 0)) []))))
    (by kernel_rfl) ?_
  refine k_loop (fun _ hs => hs.le (⟨.refl _, .refl _, .refl _, .refl _, trivial⟩) (trivial)) (fun x0 => ?_)
  try (have q0 := x0.2; dsimp only at q0)
  refine k_br (fun h1 => ?_) (fun h1 => ?_)
  · have g1 := cnd_dec_t h1
    refine k_req (by omega) ?_
    refine k_sc (hc (Int.toNat (↑(x0.1) : Int)) (by omega)) ?_
    refine k_br (fun h4 => ?_) (fun h4 => ?_)
    · have g4 := cnd_id_t h4
      try simp only [Int.toNat_natCast] at g4
      exact k_out (Ent.of_eq (congrArg _ (first_hit x0.2.2 (by omega) g4)))
    · have g4 := cnd_id_f h4
      try simp only [Int.toNat_natCast] at g4
      exact k_again (⟨x0.1 + 1, by omega, first_next x0.2.2 (by omega) g4⟩) (fun _ hs => hs.le (⟨.refl _, .refl _, .refl _, inc_ent (by omega), trivial⟩) (trivial)) (by dsimp only; omega)
  · have g1 := cnd_dec_f h1
    exact k_out (Ent.of_eq (congrArg _ (first_miss x0.2.2 (by omega))))

theorem containsS_w (F : FuncId) (S : Nat → Spend) (n : Nat) (p : Nat → Bool) (hn : n < 9223372036854775808) (hc : ∀ i, i < n → Pure Tryz.prog gl0 F [(S i).av] (.bool (p i))) : Pure Tryz.prog gl0 96 [.isl 80 n (fun i j => atL (S i).cells j), .fn (.func F) [] []] (.bool (decide (firstI p n 0 ≥ 0))) := by
  have c1 := indexS_w F S n p hn hc
  refine pure_sk (own := ow0) Tryz.func96 (by kernel_rfl) mixed (by kernel_rfl)
    (let y0 : AV := (AV.bool (decide (firstI p n 0 ≥ 0))); (.sc (true) 174 ([AV.isl 80 n fun (i j : Nat) => atL (Spend.cells (S i)) j, AV.fn (Fn.func F) [] []]) (Zi (firstI p n 0)) (.out y0 [] y0 [])))
    (by kernel_rfl) ?_
  refine k_sc (c1) ?_
  exact k_out (Ent.refl _)

theorem few33_c (S : Nat → Spend) (n : Nat) (hn : n < 9223372036854775808) : Pure Tryz.prog gl0 36 [.isl 80 n (fun i j => atL (S i).cells j)] (.bool (!decide (firstI (fun i => !fewB (S i)) n 0 ≥ 0))) := by
  have c1 := containsS_w 97 S n (fun i => !fewB (S i)) hn (fun i _ => few33x_c (S i))
  refine pure_sk (own := ow0) Tryz.func36 (by kernel_rfl) mixed (by kernel_rfl)
    (let y0 : AV := (AV.bool !decide (firstI (fun (i : Nat) => !fewB (S i)) n 0 ≥ 0)); (.sc (true) 96 ([AV.isl 80 n fun (i j : Nat) => atL (Spend.cells (S i)) j, AV.fn (Fn.func 97) [] []]) (AV.bool (decide (firstI (fun (i : Nat) => !fewB (S i)) n 0 ≥ 0))) (.out y0 [] y0 [])))
    (by kernel_rfl) ?_
  refine k_sc (c1) ?_
  exact k_out (Ent.refl _)

theorem few33_2 (a b : Spend) : Pure Tryz.prog gl0 36 [.isl 80 2 fun r k => atL (List.getD [a.cells, b.cells] r []) k] (.bool (fewB a && fewB b)) := by
  refine Pure.ent (Pure.via (few33_c (fun i => bif Nat.beq i 0 then a else b) 2 (by omega)) ?_) (Ent.of_eq (congrArg _ (by rw [firstI_neg]; simp [List.range, List.range.loop]; rfl)))
  exact ⟨Ent.two (g := fun i => Spend.cells (bif Nat.beq i 0 then a else b)) rfl rfl, trivial⟩

theorem ex_secret_c (n : Int) (h0 : 0 ≤ n) (h1 : n ≤ 1000) (h : ¬ chS exB exX = chS exB (exY n)) : Pure Tryz.prog gl0 44 [exB.av, .agg (Spend.cw exX (.isl 3 1 fun r k => atL (List.getD [[.int .i64 4, .int .i64 4, .int .i64 9]] r []) k) .nsl), .agg (Spend.cw (exY n) (.isl 3 1 fun r k => atL (List.getD [[.int .i64 4, .int .i64 6, .int .i64 1]] r []) k) .nsl), .int .i64 0] (.tup [.int .i64 8, .int .i64 0]) := by
  refine Pure.ent (Pure.via (secret_c exB exX (exY n) 0 ex_w (by decide) (by show 1 ≤ 1000; decide) ex_by (ey_by n)) ?_) (Ent.of_eq (by rw [ex_secR h0 h1 h]))
  exact ⟨Ent.refl _, Ent.agg exX_ent, Ent.agg (exY_ent n), Ent.refl _, trivial⟩

theorem ex_shared_c (n : Int) (h0 : 0 ≤ n) (h1 : n ≤ 1000) : Pure Tryz.prog gl0 43 [.agg (Spend.cw exX (.isl 3 1 fun r k => atL (List.getD [[.int .i64 4, .int .i64 4, .int .i64 9]] r []) k) .nsl), .agg (Spend.cw (exY n) (.isl 3 1 fun r k => atL (List.getD [[.int .i64 4, .int .i64 6, .int .i64 1]] r []) k) .nsl)] (.tup [il .i64 [0], .int .i64 0]) := by
  refine Pure.ent (Pure.via (xshared_c exX (exY n) (by decide) (by show 1 ≤ 1000; decide)) ?_) (Ent.of_eq (by rw [exX_ok, exY_ok h0 h1]; rfl))
  exact ⟨Ent.agg exX_ent, Ent.agg (exY_ent n), trivial⟩

theorem eq0_c : Pure Tryz.prog gl0 95 [il .i64 [0], .isl 1 1 fun r k => atL (List.getD [[.int .i64 0]] r []) k] (.bool true) :=
  (equalN_c [0] (by decide)).via ⟨Ent.refl _, il_rows rfl rfl, trivial⟩

theorem awake33_c : Pure Tryz.prog gl0 35 [] (.bool true) := by
  have c1 := rchal_c exB exX.coin exX.level exX.index exX.cxt ex_by.root ex_by.payee (by decide) (by decide)
  have c2 := fun n => rchal_c exB (exY n).coin (exY n).level (exY n).index (exY n).cxt (ey_by n).root (ey_by n).payee (by decide) (by decide)
  refine pure_sk (own := ow0) Tryz.func35 (by kernel_rfl) mixed (by kernel_rfl)
    (let y1 : List AV := [Zi 0, Zi 0, Zi 0, Zi 0, Zi 8, Zb 0, Zb 0, Zb 0, Zb 0, Zb 0, Zb 0, Zb 0, Zb 0, Zb 0, Zb 0, Zb 0, Zb 0, Zb 0, Zb 0, Zb 0, Zb 0, Zb 0, Zb 0, Zb 0, Zb 0, Zb 0, Zb 0, Zb 0, Zb 0, Zb 0, Zb 0, Zb 0, Zb 0, Zb 0, Zb 0, Zb 0, Zb 0, Zi 0, Zi 0, Zi 0, Zi 0, Zi 0, Zi 0, Zb 0, Zb 0, Zb 0, Zb 0, Zb 0, Zb 0, Zb 0, Zb 0, Zb 0, Zb 0, Zb 0, Zb 0, Zb 0, Zb 0, Zb 0, Zb 0, Zb 0, Zb 0, Zb 0, Zb 0, Zb 0, Zb 0, Zb 0, Zb 0, Zb 0, Zb 0, Zb 0, Zb 0, Zb 0, Zb 0, Zb 0, Zb 0, Zi 0, Zi 0, AV.isl 3 1 fun (r k : Nat) => atL (List.getD [[Zi 4, Zi 4, Zi 9]] (r + 0) []) k, Zi 0, AV.nsl]; let y2 : List AV := [Zi 23, Zi 11, Zi 4, Zi 2, Zi 3, Zi 6]; let y0 : List (Option Ob) := [some ⟨6, 1, true, Rep.lst [y2]⟩, some ⟨80, 1, true, Rep.lst [[Zi 0, Zi 0, Zi 0, Zi 0, Zi 8, Zb 0, Zb 0, Zb 0, Zb 0, Zb 0, Zb 0, Zb 0, Zb 0, Zb 0, Zb 0, Zb 0, Zb 0, Zb 0, Zb 0, Zb 0, Zb 0, Zb 0, Zb 0, Zb 0, Zb 0, Zb 0, Zb 0, Zb 0, Zb 0, Zb 0, Zb 0, Zb 0, Zb 0, Zb 0, Zb 0, Zb 0, Zb 0, Zi 0, Zi 0, Zi 0, Zi 0, Zi 0, Zi 0, Zb 0, Zb 0, Zb 0, Zb 0, Zb 0, Zb 0, Zb 0, Zb 0, Zb 0, Zb 0, Zb 0, Zb 0, Zb 0, Zb 0, Zb 0, Zb 0, Zb 0, Zb 0, Zb 0, Zb 0, Zb 0, Zb 0, Zb 0, Zb 0, Zb 0, Zb 0, Zb 0, Zb 0, Zb 0, Zb 0, Zb 0, Zb 0, Zi 0, Zi 0, AV.osl 2 3 0 1, Zi 0, AV.nsl]]⟩, some ⟨3, 1, true, Rep.lst [[Zi 4, Zi 4, Zi 9]]⟩]; (.loop ({ x : Nat // x ≤ 40 }) (fun (x : { x : Nat // x ≤ 40 }) => mkSt [1, 2, 11, 15] [AV.own 0 6 0 0 6, AV.own 1 80 0 0 80, AV.agg kFE50, Zi (↑(x.1) : Int)] y0) (fun (x : { x : Nat // x ≤ 40 }) => 40 - x.1) (⟨0, Nat.zero_le 40⟩) ([1, 2, 11, 15]) ([24, 72, 56]) ([AV.own 0 6 0 0 6, AV.own 1 80 0 0 80, AV.agg kFE50, Zi 0]) (y0) (fun x0 => (.br (decide ((↑x0.1 : Int) < 40)) (.sc (true) 47 ([AV.agg y2, AV.agg [Zi 0, Zi 0, Zi 0, Zi 0, Zi 8, Zb 0, Zb 0, Zb 0, Zb 0, Zb 0, Zb 0, Zb 0, Zb 0, Zb 0, Zb 0, Zb 0, Zb 0, Zb 0, Zb 0, Zb 0, Zb 0, Zb 0, Zb 0, Zb 0, Zb 0, Zb 0, Zb 0, Zb 0, Zb 0, Zb 0, Zb 0, Zb 0, Zb 0, Zb 0, Zb 0, Zb 0, Zb 0, Zi 0, Zi 0, Zi 0, Zi 0], AV.agg [Zi 0, Zi 0], AV.agg [Zb 0, Zb 0, Zb 0, Zb 0, Zb 0, Zb 0, Zb 0, Zb 0, Zb 0, Zb 0, Zb 0, Zb 0, Zb 0, Zb 0, Zb 0, Zb 0, Zb 0, Zb 0, Zb 0, Zb 0, Zb 0, Zb 0, Zb 0, Zb 0, Zb 0, Zb 0, Zb 0, Zb 0, Zb 0, Zb 0, Zb 0, Zb 0, Zi 0, Zi 0]]) (Zi (chalN (Grp.q (Bas.gr exB)) (Spend.coin exX) (Spend.level exX) (Spend.index exX) (Spend.cxt exX))) (.sc (true) 47 ([AV.agg y2, AV.agg kFE50, AV.agg [Zi 0, Zi 0], AV.agg [Zb 0, Zb 0, Zb 0, Zb 0, Zb 0, Zb 0, Zb 0, Zb 0, Zb 0, Zb 0, Zb 0, Zb 0, Zb 0, Zb 0, Zb 0, Zb 0, Zb 0, Zb 0, Zb 0, Zb 0, Zb 0, Zb 0, Zb 0, Zb 0, Zb 0, Zb 0, Zb 0, Zb 0, Zb 0, Zb 0, Zb 0, Zb 0, Zi 0, Zi (↑x0.1 : Int)]]) (Zi (chalN (Grp.q (Bas.gr exB)) (Spend.coin (exY ↑x0.1)) (Spend.level (exY ↑x0.1)) (Spend.index (exY ↑x0.1)) (Spend.cxt (exY ↑x0.1)))) (.br (chalN (11 : Int) (Spend.coin exX) (0 : Int) (0 : Int) (Spend.cxt exX) == chalN (11 : Int) (Spend.coin (exY ↑x0.1)) (0 : Int) (0 : Int) (Spend.cxt (exY ↑x0.1))) (.again (Again 0 (fun (x : { x : Nat // x ≤ 40 }) => mkSt [1, 2, 11, 15] [AV.own 0 6 0 0 6, AV.own 1 80 0 0 80, AV.agg kFE50, Zi (↑(x.1) : Int)] y0) (fun (x : { x : Nat // x ≤ 40 }) => 40 - x.1) x0) ([1, 2, 11, 15]) ([0, 1, 2]) ([AV.own 0 6 0 0 6, AV.own 1 80 0 0 80, AV.agg kFE50, Zi (IntKind.wrap IntKind.i64 ((↑x0.1 : Int) + 1))]) (y0)) (.sc (true) 44 ([AV.agg y2, AV.agg y1, AV.agg [Zi 0, Zi 0, Zi 0, Zi 0, Zi 8, Zb 0, Zb 0, Zb 0, Zb 0, Zb 0, Zb 0, Zb 0, Zb 0, Zb 0, Zb 0, Zb 0, Zb 0, Zb 0, Zb 0, Zb 0, Zb 0, Zb 0, Zb 0, Zb 0, Zb 0, Zb 0, Zb 0, Zb 0, Zb 0, Zb 0, Zb 0, Zb 0, Zb 0, Zb 0, Zb 0, Zb 0, Zb 0, Zi 0, Zi 0, Zi 0, Zi 0, Zi 0, Zi 0, Zb 0, Zb 0, Zb 0, Zb 0, Zb 0, Zb 0, Zb 0, Zb 0, Zb 0, Zb 0, Zb 0, Zb 0, Zb 0, Zb 0, Zb 0, Zb 0, Zb 0, Zb 0, Zb 0, Zb 0, Zb 0, Zb 0, Zb 0, Zb 0, Zb 0, Zb 0, Zb 0, Zb 0, Zb 0, Zb 0, Zb 0, Zb 0, Zi 0, Zi (↑x0.1 : Int), AV.isl 3 1 fun (r k : Nat) => atL (List.getD [[Zi 4, Zi 6, Zi 1]] (r + 0) []) k, Zi 0, AV.nsl], Zi 0]) (AV.tup [Zi 8, Zi 0]) (.dc (true) 43 ([AV.agg y1, AV.agg [Zi 0, Zi 0, Zi 0, Zi 0, Zi 8, Zb 0, Zb 0, Zb 0, Zb 0, Zb 0, Zb 0, Zb 0, Zb 0, Zb 0, Zb 0, Zb 0, Zb 0, Zb 0, Zb 0, Zb 0, Zb 0, Zb 0, Zb 0, Zb 0, Zb 0, Zb 0, Zb 0, Zb 0, Zb 0, Zb 0, Zb 0, Zb 0, Zb 0, Zb 0, Zb 0, Zb 0, Zb 0, Zi 0, Zi 0, Zi 0, Zi 0, Zi 0, Zi 0, Zb 0, Zb 0, Zb 0, Zb 0, Zb 0, Zb 0, Zb 0, Zb 0, Zb 0, Zb 0, Zb 0, Zb 0, Zb 0, Zb 0, Zb 0, Zb 0, Zb 0, Zb 0, Zb 0, Zb 0, Zb 0, Zb 0, Zb 0, Zb 0, Zb 0, Zb 0, Zb 0, Zb 0, Zb 0, Zb 0, Zb 0, Zb 0, Zi 0, Zi (↑x0.1 : Int), AV.isl 3 1 fun (r k : Nat) => atL (List.getD [[Zi 4, Zi 6, Zi 1]] (r + 0) []) k, Zi 0, AV.nsl]]) (AV.tup [il IntKind.i64 [(0 : Int)], Zi 0]) (.sc (true) 95 ([AV.isl 1 1 fun (i x : Nat) => Zi (List.getD [(0 : Int)] i (0 : Int)), AV.isl 1 1 fun (r k : Nat) => atL (List.getD [[Zi 0]] (r + 0) []) k]) (AV.bool true) (.out (AV.bool true) [] (AV.bool true) []))))))) (.out (AV.bool true) [] (AV.bool true) [])))))
    (by kernel_rfl) ?_
  refine k_loop (fun _ hs => hs.le (⟨.refl _, .refl _, .refl _, .refl _, trivial⟩) (⟨.refl _, .refl _, .refl _, trivial⟩)) (fun x0 => ?_)
  try (have q0 := x0.2; dsimp only at q0)
  refine k_br (fun h1 => ?_) (fun h1 => ?_)
  · have g1 := cnd_dec_t h1
    refine k_sc (c1) ?_
    refine k_sc (c2 (↑x0.1)) ?_
    refine k_br (fun h4 => ?_) (fun h4 => ?_)
    · have g4 := cnd_beq_t h4
      exact k_again (⟨x0.1 + 1, by omega⟩) (fun _ hs => hs.le (⟨.refl _, .refl _, .refl _, inc_ent (by omega), trivial⟩) (⟨.refl _, .refl _, .refl _, trivial⟩)) (by dsimp only; omega)
    · have g4 := cnd_beq_f h4
      refine k_sc (ex_secret_c (↑x0.1) (by omega) (by omega) (by assumption)) ?_
      refine k_dc (ex_shared_c (↑x0.1) (by omega) (by omega)) ?_
      refine k_sc (eq0_c) ?_
      exact k_out (Ent.of_eq rfl)
  · have g1 := cnd_dec_f h1
    exact k_out (Ent.of_eq rfl)

end Go.Proofs.YtdaaddkipdmajaaGreatDoor

namespace Go.Sp
open Go Go.Am
theorem elem_iff {G : Grp} (h : G.Ok) {x : Int} : elemB G x = true ↔ 1 ≤ x ∧ x < G.p ∧ x ^ G.q.toNat % G.p = 1 := by
  rw [← mem_eq h]
  simp [and_assoc]
theorem pow_ne {a p : Int} {q : Nat} (hq : 0 < q) (h : a ^ q % p = 1) : a % p ≠ 0 := fun e => by
  have h2 : (a % p) ^ q % p = 1 := by rw [pow_mod]; exact h
  rw [e, Int.zero_pow (by omega)] at h2
  simp at h2
theorem elem_of {G : Grp} (h : G.Ok) {x : Int} (hx : x ^ G.q.toNat % G.p = 1) : elemB G (x % G.p) = true := by
  have h3 := h.p3; have h4 := h.q3
  have h1 := Int.emod_nonneg x (show G.p ≠ 0 by omega)
  have h2 := Int.emod_lt_of_pos x (show 0 < G.p by omega)
  have h5 := pow_ne (by omega) hx
  refine (elem_iff h).2 ⟨by omega, h2, ?_⟩
  rw [pow_mod]
  exact hx
theorem elem_pow {G : Grp} (h : G.Ok) {a : Int} (ha : elemB G a = true) (k : Nat) : elemB G (a ^ k % G.p) = true := by
  refine elem_of h ?_
  have h3 := h.p3
  rw [← Int.pow_mul, Nat.mul_comm, Int.pow_mul, ← pow_mod, ((elem_iff h).1 ha).2.2, Int.one_pow, Int.emod_eq_of_lt (by decide) (by omega)]
theorem elem_mul {G : Grp} (h : G.Ok) {a b : Int} (ha : elemB G a = true) (hb : elemB G b = true) : elemB G (a * b % G.p) = true := by
  refine elem_of h ?_
  have h3 := h.p3
  rw [Int.mul_pow, Int.mul_emod, ((elem_iff h).1 ha).2.2, ((elem_iff h).1 hb).2.2]
  exact Int.emod_eq_of_lt (by decide) (by omega)
theorem elem_bnd {G : Grp} (h : G.Ok) {a : Int} (ha : elemB G a = true) : 1 ≤ a ∧ a < G.p := ⟨((elem_iff h).1 ha).1, ((elem_iff h).1 ha).2.1⟩
def msgI (b : Bas) (u : Int) : Int := b.g1 ^ u.toNat % b.gr.p * b.g2 % b.gr.p
theorem red_q {q x : Int} (h : 0 ≤ x ∧ x < q) : x % q = x := Int.emod_eq_of_lt h.1 h.2
theorem chS_q {b : Bas} {s : Spend} (h : 0 < b.gr.q) : 0 ≤ chS b s ∧ chS b s < b.gr.q := num_by h 16
end Go.Sp

namespace Go.Proofs.YtdaaddkipdmajaaGreatDoor
open Go Go.Am Go.Sp
set_option maxRecDepth 100000

theorem gcheck_c (G : Grp) (l : List Int) (h : G.Ok) (hw : G.W) (hl : ∀ i, i < l.length → elemB G (l.getD i 0) = true) (hn : l.length < 1000) : Pure Tryz.prog gl0 126 [G.av, il .i64 l] (.int .i64 0) := by
  have c1 := gvalid_c G hw
  rw [validG_iff.2 h] at c1
  have c2 := fun x => element_c G x hw
  refine pure_sk (own := ow0) Tryz.func126 (by kernel_rfl) mixed (by kernel_rfl)
    (let y0 : List (Option Ob) := [some ⟨3, 1, true, Rep.lst [[Zi (Grp.p G), Zi (Grp.q G), Zi (Grp.g G)]]⟩]; (.sc (true) 129 ([AV.agg [Zi G.1, Zi G.2, Zi G.3]]) (AV.bool true) (.ff (.loop ({ x : Nat // x ≤ List.length l }) (fun (x : { x : Nat // x ≤ List.length l }) => mkSt [2, 10, 11, 12] [AV.own 0 3 0 0 3, AV.isl 1 (List.length l) fun (i x : Nat) => Zi (List.getD l i (0 : Int)), Zi (↑(List.length l) : Int), Zi (↑(x.1) : Int)] y0) (fun (x : { x : Nat // x ≤ List.length l }) => List.length l - x.1) (⟨0, Nat.zero_le (List.length l)⟩) ([2, 10, 11, 12]) ([0]) ([AV.own 0 3 0 0 3, AV.isl 1 (List.length l) fun (i x : Nat) => Zi (List.getD l i (0 : Int)), Zi (↑(List.length l) : Int), Zi 0]) (y0) (fun x2 => (.br (decide ((↑x2.1 : Int) < (↑(List.length l) : Int))) (.req ((0 : Int) ≤ (↑x2.1 : Int) ∧ (↑x2.1 : Int) < (↑(List.length l) : Int)) (.sc (true) 194 ([AV.agg [Zi G.1, Zi G.2, Zi G.3], Zi (List.getD l (Int.toNat (↑x2.1 : Int)) (0 : Int))]) (AV.bool (elemB G (List.getD l (Int.toNat (↑x2.1 : Int)) (0 : Int)))) (.br (!elemB G (List.getD l (Int.toNat (↑x2.1 : Int)) (0 : Int))) (.out (Zi 2) [] (Zi 0) []) (.again (Again 0 (fun (x : { x : Nat // x ≤ List.length l }) => mkSt [2, 10, 11, 12] [AV.own 0 3 0 0 3, AV.isl 1 (List.length l) fun (i x : Nat) => Zi (List.getD l i (0 : Int)), Zi (↑(List.length l) : Int), Zi (↑(x.1) : Int)] y0) (fun (x : { x : Nat // x ≤ List.length l }) => List.length l - x.1) x2) ([2, 10, 11, 12]) ([0]) ([AV.own 0 3 0 0 3, AV.isl 1 (List.length l) fun (i x : Nat) => Zi (List.getD l i (0 : Int)), Zi (↑(List.length l) : Int), Zi (IntKind.wrap IntKind.i64 ((↑x2.1 : Int) + 1))]) (y0))))) (.out (Zi 0) [] (Zi 0) [])))))))
    (by kernel_rfl) ?_
  refine k_sc (c1) ?_
  refine k_ff ?_
  refine k_loop (fun _ hs => hs.le (⟨.refl _, .refl _, .refl _, .refl _, trivial⟩) (⟨.refl _, trivial⟩)) (fun x2 => ?_)
  try (have q2 := x2.2; dsimp only at q2)
  refine k_br (fun h3 => ?_) (fun h3 => ?_)
  · have g3 := cnd_dec_t h3
    refine k_req (by omega) ?_
    refine k_sc (c2 (List.getD l (Int.toNat (↑x2.1 : Int)) (0 : Int))) ?_
    refine k_br (fun h6 => ?_) (fun h6 => ?_)
    · have g6 := (cnd_not_t cnd_id_f) h6
      try simp only [Int.toNat_natCast] at g6
      exact k_out ((by exfalso; rw [hl x2.1 (by omega)] at g6; cases g6))
    · have g6 := (cnd_not_f cnd_id_t) h6
      try simp only [Int.toNat_natCast] at g6
      exact k_again (⟨x2.1 + 1, by omega⟩) (fun _ hs => hs.le (⟨.refl _, .refl _, .refl _, inc_ent (by omega), trivial⟩) (⟨.refl _, trivial⟩)) (by dsimp only; omega)
  · have g3 := cnd_dec_f h3
    exact k_out (Ent.of_eq rfl)

theorem gcheck1 (G : Grp) (a : Int) (h : G.Ok) (hw : G.W) (ha : elemB G a = true) : Pure Tryz.prog gl0 126 [G.av, .isl 1 1 fun r k => atL (List.getD [[.int .i64 a]] r []) k] (.int .i64 0) :=
  (gcheck_c G [a] h hw (fun i hi => by obtain rfl : i = 0 := Nat.lt_one_iff.1 hi
                                       exact ha) (by simp)).via ⟨Ent.refl _, il_rows rfl rfl, trivial⟩

theorem gcheck2 (G : Grp) (a c : Int) (h : G.Ok) (hw : G.W) (ha : elemB G a = true) (hc : elemB G c = true) : Pure Tryz.prog gl0 126 [G.av, .isl 1 2 fun r k => atL (List.getD [[.int .i64 a], [.int .i64 c]] r []) k] (.int .i64 0) :=
  (gcheck_c G [a, c] h hw (fun i hi => match i, hi with
    | 0, _ => ha
    | 1, _ => hc) (by simp)).via ⟨Ent.refl _, il_rows rfl rfl, trivial⟩

theorem gmul_c (G : Grp) (a c : Int) (h : G.Ok) (hw : G.W) (ha : elemB G a = true) (hc : elemB G c = true) : Pure Tryz.prog gl0 49 [G.av, .int .i64 a, .int .i64 c] (.tup [.int .i64 (a * c % G.p), .int .i64 0]) := by
  have c1 := gcheck2 G a c h hw ha hc
  have x := elem_bnd h ha
  have y := elem_bnd h hc
  have k1 := h.p1
  have k2 := chk_ok (a := a) (b := c) (m := G.p) (by omega) (by omega) (by omega) (by omega) (by omega) (by omega)
  refine pure_sk (own := ow0) Tryz.func49 (by kernel_rfl) mixed (by kernel_rfl)
    (let y0 : AV := (AV.tup [Zi (okv (chkI a c G.1) (a * c % G.1)), Zi (chkI a c G.1)]); (.sc (true) 126 ([AV.agg [Zi G.1, Zi G.2, Zi G.3], AV.isl 1 2 fun (r k : Nat) => atL (List.getD [[Zi a], [Zi c]] (r + 0) []) k]) (Zi 0) (.ff (.sc (true) 113 ([Zi a, Zi c, Zi G.1]) y0 (.out y0 [] (AV.tup [Zi (a * c % Grp.p G), Zi 0]) [])))))
    (by kernel_rfl) ?_
  refine k_sc (c1) ?_
  refine k_ff ?_
  refine k_sc (wmul_c (a) (c) (G.1)) ?_
  exact k_out (Ent.of_eq (by rw [k2]; rfl))

theorem gpow_c (G : Grp) (a e : Int) (h : G.Ok) (hw : G.W) (ha : elemB G a = true) (he : 0 ≤ e ∧ e < G.q) : Pure Tryz.prog gl0 48 [G.av, .int .i64 a, .int .i64 e] (.tup [.int .i64 (a ^ e.toNat % G.p), .int .i64 0]) := by
  have c1 := gcheck1 G a h hw ha
  have x := elem_bnd h ha
  have k1 := h.p1; have k2 := h.qp; have k3 := h.q3
  have k4 : okv (chkI 0 0 G.q) (e % G.q) = e := by
    rw [chk_ok (by omega) (by omega) (by omega) (by omega) (by omega) (by omega)]
    exact red_q he
  have k5 := powE_0 (chk_ok (a := a) (b := a) (m := G.p) (by omega) (by omega) (by omega) (by omega) (by omega) (by omega)) (by omega : ¬ e < 0)
  refine pure_sk (own := ow0) Tryz.func48 (by kernel_rfl) mixed (by kernel_rfl)
    (let y0 : AV := (AV.tup [Zi (okv (powE a (okv (chkI (0 : Int) (0 : Int) G.2) (e % G.2)) G.1) (a ^ Int.toNat (okv (chkI (0 : Int) (0 : Int) G.2) (e % G.2)) % G.1)), Zi (powE a (okv (chkI (0 : Int) (0 : Int) G.2) (e % G.2)) G.1)]); (.sc (true) 126 ([AV.agg [Zi G.1, Zi G.2, Zi G.3], AV.isl 1 1 fun (r k : Nat) => atL (List.getD [[Zi a]] (r + 0) []) k]) (Zi 0) (.ff (.sc (true) 127 ([Zi e, Zi G.2]) (AV.tup [Zi (okv (chkI (0 : Int) (0 : Int) G.2) (e % G.2)), Zi (chkI (0 : Int) (0 : Int) G.2)]) (.sc (true) 128 ([Zi a, Zi (okv (chkI (0 : Int) (0 : Int) G.2) (e % G.2)), Zi G.1]) y0 (.out y0 [] (AV.tup [Zi (a ^ Int.toNat e % Grp.p G), Zi 0]) []))))))
    (by kernel_rfl) ?_
  refine k_sc (c1) ?_
  refine k_ff ?_
  refine k_sc (wreduce_c (e) (G.2)) ?_
  refine k_sc (wpow_c (a) (okv (chkI (0 : Int) (0 : Int) G.2) (e % G.2)) (G.1) (by rw [k4]; omega)) ?_
  exact k_out (Ent.of_eq (by rw [k4, k5]; rfl))

theorem message_c (b : Bas) (u : Int) (h : b.Ok) (hw : b.gr.W) (hu : 0 ≤ u ∧ u < b.gr.q) : Pure Tryz.prog gl0 176 [b.av, .int .i64 u] (.int .i64 (msgI b u)) := by
  have c1 := gpow_c b.gr b.g1 u h.G hw h.e1 hu
  have c2 := gmul_c b.gr (b.g1 ^ u.toNat % b.gr.p) b.g2 h.G hw (elem_pow h.G h.e1 _) h.e2
  refine pure_sk (own := ow0) Tryz.func176 (by kernel_rfl) mixed (by kernel_rfl)
    (let y0 : List AV := [Zi (Bas.gr b).1, Zi (Bas.gr b).2, Zi (Bas.gr b).3]; (.sc (true) 48 ([AV.agg y0, Zi b.2, Zi u]) (AV.tup [Zi (Bas.g1 b ^ Int.toNat u % Grp.p (Bas.gr b)), Zi 0]) (.sc (true) 49 ([AV.agg y0, Zi (b.2 ^ Int.toNat u % (Bas.gr b).1), Zi b.3]) (AV.tup [Zi (Bas.g1 b ^ Int.toNat u % Grp.p (Bas.gr b) * Bas.g2 b % Grp.p (Bas.gr b)), Zi 0]) (.out (Zi (b.2 ^ Int.toNat u % (Bas.gr b).1 * b.3 % (Bas.gr b).1)) [] (Zi (msgI b u)) []))))
    (by kernel_rfl) ?_
  refine k_sc (c1) ?_
  refine k_sc (c2) ?_
  exact k_out (Ent.refl _)

theorem rmessage_c (b : Bas) (u : Int) (h : b.Ok) (hu : 0 ≤ u ∧ u < b.gr.q) : Pure Tryz.prog gl0 103 [b.av, .int .i64 u] (.int .i64 (msgI b u)) := by
  have k1 := elem_bnd h.G h.e1
  have k2 := elem_bnd h.G h.e2
  have k3 := h.G.p1; have k4 := h.G.qp
  have k5 := elem_bnd h.G (elem_pow h.G h.e1 u.toNat)
  refine pure_sk (own := ow0) Tryz.func103 (by kernel_rfl) mixed (by kernel_rfl)
    (let y0 : AV := (Zi (b.2 ^ Int.toNat u % (Bas.gr b).1 * b.3 % (Bas.gr b).1)); (.sc (true) 104 ([Zi b.2, Zi u, Zi (Bas.gr b).1]) (Zi (b.2 ^ Int.toNat u % (Bas.gr b).1)) (.sc (true) 64 ([Zi (b.2 ^ Int.toNat u % (Bas.gr b).1), Zi b.3, Zi (Bas.gr b).1]) y0 (.out y0 [] (Zi (msgI b u)) []))))
    (by kernel_rfl) ?_
  refine k_sc (rpow_c (b.2) (u) ((Bas.gr b).1) (by omega) (by omega) (by omega) (by omega) (by assumption)) ?_
  refine k_sc (rmul_c (b.2 ^ Int.toNat u % (Bas.gr b).1) (b.3) ((Bas.gr b).1) (by omega) (by omega) (by omega) (by omega) (by assumption)) ?_
  exact k_out (Ent.refl _)



end Go.Proofs.YtdaaddkipdmajaaGreatDoor

namespace Go.Sp
open Go Go.Am

structure Rcd where
  bank : Int
  epoch : Int
  denom : Int
  value : Int
  depth : Int
  h : Int
  h1 : Int
  h2 : Int
  fr : Int
  til : Int
  fin : Int
def Rcd.key (r : Rcd) : List AV := [.int .i64 r.h, .int .i64 r.h1, .int .i64 r.h2]
def Rcd.cells (r : Rcd) : List AV := [.int .i64 r.bank, .int .i64 r.epoch, .int .i64 r.denom, .int .i64 r.value, .int .i64 r.depth] ++ (r.key ++ [.int .i64 r.fr, .int .i64 r.til, .int .i64 r.fin])
def Rcd.av (r : Rcd) : AV := .agg r.cells

def msgB (G : Grp) (x : Int) : Bool := x != 1 && elemB G x
def keyB (b : Bas) (h h1 h2 : Int) : Bool := validB b && msgB b.gr h && msgB b.gr h1 && msgB b.gr h2
def oneB (v d : Int) : Bool := bif v == 0 then d == 0 else decide (v ≥ 1) && decide (v ≤ 1099511627776) && decide (d ≥ 0) && decide (d ≤ 5) && (Int.tmod v (IntKind.wrap .i64 (1 * 2 ^ min d.toNat 64)) == 0)
def rngB (x l u : Int) : Bool := decide (x ≥ l) && decide (x ≤ u)
def numR (bank epoch fr til fin : Int) : Bool := rngB bank 0 7 && rngB epoch 0 1000000 && decide (fr ≥ 0) && decide (fr < til) && decide (til ≤ fin) && decide (fin ≤ 1099511627776)
def rcvB (b : Bas) (r : Rcd) : Bool := keyB b r.h r.h1 r.h2 && numR r.bank r.epoch r.fr r.til r.fin && rngB r.denom 0 16 && oneB r.value r.depth
theorem ok1 {e v : Int} : (e == 0 && okv e v == 1) = (okv e v == 1) := by
  by_cases h : e = 0
  · subst h; rfl
  · rw [okvn h, show (e == 0) = false by simpa using h]; rfl
theorem sh_ne {d : Int} (h0 : 0 ≤ d) (h5 : d ≤ 5) : IntKind.wrap .i64 (1 * 2 ^ min d.toNat 64) ≠ 0 := by
  rw [shw (x := d.toNat) (by omega)]
  have : 1 ≤ 2 ^ d.toNat := pow_pos2
  omega
theorem u64_s {d : Int} (h0 : 0 ≤ d) (h5 : d ≤ 5) : IntKind.wrap .u64 d = d := by
  have : d = 0 ∨ d = 1 ∨ d = 2 ∨ d = 3 ∨ d = 4 ∨ d = 5 := by omega
  rcases this with rfl | rfl | rfl | rfl | rfl | rfl <;> decide
theorem one_1 {v d : Int} (h : v = 0) (h' : d = 0) : oneB v d = true := by subst h; subst h'; rfl
theorem one_0 {v d : Int} (h : v = 0) : oneB v d = (d == 0) := by subst h; rfl
theorem one_n {v d : Int} (h : ¬ v = 0) : oneB v d = (decide (v ≥ 1) && decide (v ≤ 1099511627776) && decide (d ≥ 0) && decide (d ≤ 5) && (Int.tmod v (IntKind.wrap .i64 (1 * 2 ^ min d.toNat 64)) == 0)) := by
  unfold oneB
  rw [show (v == 0) = false by simpa using h]; rfl
theorem one_2 {v d : Int} (h : ¬ (v = 0 ∧ d = 0)) : (decide (v ≥ 1) && decide (v ≤ 1099511627776) && decide (d ≥ 0) && decide (d ≤ 5) && (Int.tmod v (IntKind.wrap .i64 (1 * 2 ^ min d.toNat 64)) == 0)) = oneB v d := by
  by_cases hv : v = 0
  · rw [one_0 hv, show decide (v ≥ 1) = false by simp; omega]
    have : ¬ d = 0 := fun e => h ⟨hv, e⟩
    simp [this]
  · exact (one_n hv).symm
theorem one_3 {v d : Int} (h : ¬ v = 0) : (decide (v ≥ 1) && decide (v ≤ 1099511627776) && decide (d ≥ 0) && decide (d ≤ 5) && (Int.tmod v (IntKind.wrap .i64 (1 * 2 ^ min (Int.toNat (IntKind.wrap .u64 d)) 64)) == 0)) = oneB v d := by
  rw [one_n h]
  by_cases hd : 0 ≤ d ∧ d ≤ 5
  · rw [u64_s hd.1 hd.2]
  · have : (decide (d ≥ 0) && decide (d ≤ 5)) = false := by
      by_cases h0 : d ≥ 0
      · rw [decide_eq_false (show ¬ d ≤ 5 by omega), Bool.and_false]
      · rw [decide_eq_false h0]; rfl
    rw [Bool.and_assoc (decide (v ≥ 1) && decide (v ≤ 1099511627776)), this]
    simp
theorem rec_1 {n g k : Bool} {v d : Int} : (n && g && (v == 0 && d == 0 || oneB v d) && k) = (k && n && g && oneB v d) := by
  by_cases h : v = 0 ∧ d = 0
  · obtain ⟨rfl, rfl⟩ := h
    cases n <;> cases g <;> cases k <;> rfl
  · have : (v == 0 && d == 0) = false := by simpa using h
    rw [this]
    cases n <;> cases g <;> cases k <;> simp
def crtL (b : Bas) (a : Int) (i : Nat) : Int := [b.gr.p, b.gr.q, b.gr.g, b.g1, b.g2, b.h, a].getD i 0
def crtI (b : Bas) (a : Int) (root : Nat → Int) (z sa sb : Int) : It := lsI [.int b.gr.p, .int b.gr.q, .int b.gr.g, .int b.g1, .int b.g2, .int b.h, .int a, .byt 32 root, .int z, .int sa, .int sb]
def crtN (b : Bas) (a : Int) (root : Nat → Int) (z sa sb : Int) : Int := numF (tagI "specie/coin".toUTF8 (crtI b a root z sa sb)) b.gr.q 16
theorem crtL_ob {os : List (Option Ob)} {b : Bas} {a : Int} {mu : Bool} : ObEnt os ⟨1, 7, mu, .lst [[.int .i64 b.gr.p], [.int .i64 b.gr.q], [.int .i64 b.gr.g], [.int .i64 b.g1], [.int .i64 b.g2], [.int .i64 b.h], [.int .i64 a]]⟩ ⟨1, 7, mu, .fn fun i _ => .int .i64 (crtL b a i)⟩ := lst_fn fun i j hi hj => by
  obtain rfl : j = 0 := by omega
  match i, hi with
  | 0, _ | 1, _ | 2, _ | 3, _ | 4, _ | 5, _ | 6, _ => rfl
def elF (x0 x1 x2 x3 : Int) (i : Nat) : Int := [x0, x1, x2, x3].getD i 0
theorem allE4 {p : Int → Bool} {x0 x1 x2 x3 : Int} : allI (fun i => p (elF x0 x1 x2 x3 i)) 4 = (p x0 && (p x1 && p x2 && p x3)) := by
  unfold allI
  show (p x0 && (p x1 && (p x2 && (p x3 && true)))) = _
  rw [Bool.and_true, Bool.and_assoc (p x1)]
def elsB (G : Grp) (z sa sb : Int) : Bool := elemB G z && elemB G sa && elemB G sb
def crtE (b : Bas) (a z sa sb : Int) : Int := bif validB b then (bif elemB b.gr a && elsB b.gr z sa sb then 0 else 2) else 1
end Go.Sp

namespace Go.Proofs.YtdaaddkipdmajaaGreatDoor
open Go Go.Am Go.Sp
set_option maxRecDepth 100000

theorem within_r (x l u : Int) : Pure Tryz.prog gl0 204 [.int .i64 x, .int .i64 l, .int .i64 u] (.bool (rngB x l u)) := by
  refine pure_sk (own := ow0) Tryz.func204 (by kernel_rfl) mixed (by kernel_rfl)
    (.out (AV.bool (decide (x ≥ l) && decide (x ≤ u))) [] (AV.bool (rngB x l u)) [])
    (by kernel_rfl) ?_
  exact k_out (Ent.refl _)

theorem numbers_c (a b c d e : Int) : Pure Tryz.prog gl0 203 [.int .i64 a, .int .i64 b, .int .i64 c, .int .i64 d, .int .i64 e] (.bool (numR a b c d e)) := by
  refine pure_sk (own := ow0) Tryz.func203 (by kernel_rfl) mixed (by kernel_rfl)
    (.sc (true) 204 ([Zi a, Zi 0, Zi 7]) (AV.bool (rngB a (0 : Int) (7 : Int))) (.sc (rngB a (0 : Int) (7 : Int) == true) 204 ([Zi b, Zi 0, Zi 1000000]) (AV.bool (rngB b (0 : Int) (1000000 : Int))) (.out (AV.bool (rngB a (0 : Int) (7 : Int) && rngB b (0 : Int) (1000000 : Int) && decide (c ≥ 0) && decide (c < d) && decide (d ≤ e) && decide (e ≤ 1099511627776))) [] (AV.bool (numR a b c d e)) [])))
    (by kernel_rfl) ?_
  refine k_sc (within_r (a) ((0 : Int)) ((7 : Int))) ?_
  refine k_scg (fun h1 => within_r (b) ((0 : Int)) ((1000000 : Int))) ?_
  exact k_out (Ent.refl _)

theorem rin_c (x l u : Int) : Pure Tryz.prog gl0 160 [.int .i64 x, .int .i64 l, .int .i64 u] (.bool (rngB x l u)) := by
  refine pure_sk (own := ow0) Tryz.func160 (by kernel_rfl) mixed (by kernel_rfl)
    (.out (AV.bool (decide (x ≥ l) && decide (x ≤ u))) [] (AV.bool (rngB x l u)) [])
    (by kernel_rfl) ?_
  exact k_out (Ent.refl _)

theorem frame_c (a b c d e : Int) : Pure Tryz.prog gl0 159 [.int .i64 a, .int .i64 b, .int .i64 c, .int .i64 d, .int .i64 e] (.bool (numR a b c d e)) := by
  refine pure_sk (own := ow0) Tryz.func159 (by kernel_rfl) mixed (by kernel_rfl)
    (.sc (true) 160 ([Zi a, Zi 0, Zi 7]) (AV.bool (rngB a (0 : Int) (7 : Int))) (.sc (rngB a (0 : Int) (7 : Int) == true) 160 ([Zi b, Zi 0, Zi 1000000]) (AV.bool (rngB b (0 : Int) (1000000 : Int))) (.out (AV.bool (rngB a (0 : Int) (7 : Int) && rngB b (0 : Int) (1000000 : Int) && decide (c ≥ 0) && decide (c < d) && decide (d ≤ e) && decide (e ≤ 1099511627776))) [] (AV.bool (numR a b c d e)) [])))
    (by kernel_rfl) ?_
  refine k_sc (rin_c (a) ((0 : Int)) ((7 : Int))) ?_
  refine k_scg (fun h1 => rin_c (b) ((0 : Int)) ((1000000 : Int))) ?_
  exact k_out (Ent.refl _)

theorem single_c (v d : Int) : Pure Tryz.prog gl0 245 [.agg [.int .i64 v, .int .i64 d]] (.bool (oneB v d)) := by
  refine pure_sk (own := ow0) Tryz.func245 (by kernel_rfl) mixed (by kernel_rfl)
    (.br (v == 0 && (d == 0 && true)) (.out (AV.bool true) [] (AV.bool (oneB v d)) []) (.req (((decide (v ≥ 1) && decide (v ≤ 1099511627776) && decide (d ≥ 0) && decide (d ≤ 5)) == true) = true → (0 : Int) ≤ d) (.req (((decide (v ≥ 1) && decide (v ≤ 1099511627776) && decide (d ≥ 0) && decide (d ≤ 5)) == true) = true → IntKind.wrap IntKind.i64 ((1 : Int) * 2 ^ min (Int.toNat d) 64) ≠ (0 : Int)) (.out (AV.bool (decide (v ≥ 1) && decide (v ≤ 1099511627776) && decide (d ≥ 0) && decide (d ≤ 5) && Int.tmod v (IntKind.wrap IntKind.i64 ((1 : Int) * 2 ^ min (Int.toNat d) 64)) == 0)) [] (AV.bool (oneB v d)) []))))
    (by kernel_rfl) ?_
  refine k_br (fun h0 => ?_) (fun h0 => ?_)
  · have g0 := (cnd_and_t cnd_beq_t (cnd_and_t cnd_beq_t cnd_id_t)) h0
    exact k_out (Ent.of_eq (congrArg _ (one_1 g0.1 g0.2.1).symm))
  · have g0 := (cnd_and_f cnd_beq_f (cnd_and_f cnd_beq_f cnd_id_f)) h0
    refine k_req (fun hr => by simp at hr; omega) ?_
    refine k_req (fun hr => by simp at hr; exact sh_ne (by omega) (by omega)) ?_
    exact k_out (Ent.of_eq (congrArg _ (one_2 (fun h => by rcases g0 with g | g | g; (· exact g h.1); (· exact g h.2); cases g))))

theorem one_c (v d : Int) : Pure Tryz.prog gl0 161 [.agg [.int .i64 v, .int .i64 d]] (.bool (oneB v d)) := by
  refine pure_sk (own := ow0) Tryz.func161 (by kernel_rfl) mixed (by kernel_rfl)
    (let y0 : Nat := (Int.toNat (IntKind.wrap IntKind.u64 d)); (.br (v == 0) (.out (AV.bool (d == 0)) [] (AV.bool (oneB v d)) []) (.req (((decide (v ≥ 1) && decide (v ≤ 1099511627776) && decide (d ≥ 0) && decide (d ≤ 5)) == true) = true → (0 : Int) ≤ IntKind.wrap IntKind.u64 d) (.req (((decide (v ≥ 1) && decide (v ≤ 1099511627776) && decide (d ≥ 0) && decide (d ≤ 5)) == true) = true → IntKind.wrap IntKind.i64 ((1 : Int) * 2 ^ min y0 64) ≠ (0 : Int)) (.out (AV.bool (decide (v ≥ 1) && decide (v ≤ 1099511627776) && decide (d ≥ 0) && decide (d ≤ 5) && Int.tmod v (IntKind.wrap IntKind.i64 ((1 : Int) * 2 ^ min y0 64)) == 0)) [] (AV.bool (oneB v d)) [])))))
    (by kernel_rfl) ?_
  refine k_br (fun h0 => ?_) (fun h0 => ?_)
  · have g0 := cnd_beq_t h0
    exact k_out (Ent.of_eq (congrArg _ (one_0 g0).symm))
  · have g0 := cnd_beq_f h0
    refine k_req (fun hr => by simp at hr; rw [u64_s (by omega) (by omega)]; omega) ?_
    refine k_req (fun hr => by simp at hr; rw [u64_s (by omega) (by omega)]; exact sh_ne (by omega) (by omega)) ?_
    exact k_out (Ent.of_eq (congrArg _ (one_3 g0)))

theorem elementR_c (b : Bas) (x : Int) (hw : b.gr.W) : Pure Tryz.prog gl0 246 [b.av, .int .i64 x] (.bool (elemB b.gr x)) := by
  have hq := hw.q
  refine pure_sk (own := ow0) Tryz.func246 (by kernel_rfl) mixed (by kernel_rfl)
    (.br (decide (x < 1) || decide (x ≥ (Bas.gr b).1)) (.out (AV.bool false) [] (AV.bool (elemB (Bas.gr b) x)) []) (.sc (true) 128 ([Zi x, Zi (Bas.gr b).2, Zi (Bas.gr b).1]) (AV.tup [Zi (okv (powE x (Bas.gr b).2 (Bas.gr b).1) (x ^ Int.toNat (Bas.gr b).2 % (Bas.gr b).1)), Zi (powE x (Bas.gr b).2 (Bas.gr b).1)]) (.out (AV.bool (powE x (Bas.gr b).2 (Bas.gr b).1 == 0 && okv (powE x (Bas.gr b).2 (Bas.gr b).1) (x ^ Int.toNat (Bas.gr b).2 % (Bas.gr b).1) == 1)) [] (AV.bool (elemB (Bas.gr b) x)) [])))
    (by kernel_rfl) ?_
  refine k_br (fun h0 => ?_) (fun h0 => ?_)
  · have g0 := (cnd_or_t cnd_dec_t cnd_dec_t) h0
    exact k_out (Ent.of_eq (congrArg _ (elem_f g0).symm))
  · have g0 := (cnd_or_f cnd_dec_f cnd_dec_f) h0
    refine k_sc (wpow_c (x) ((Bas.gr b).2) ((Bas.gr b).1) (by assumption)) ?_
    exact k_out (Ent.of_eq (congrArg _ (ok1.trans (elem_t g0).symm)))

theorem messageR_c (b : Bas) (x : Int) (hw : b.gr.W) : Pure Tryz.prog gl0 207 [b.av, .int .i64 x] (.bool (msgB b.gr x)) := by
  refine pure_sk (own := ow0) Tryz.func207 (by kernel_rfl) mixed (by kernel_rfl)
    (.sc ((x != 1) == true) 246 ([AV.agg (Bas.cells b), Zi x]) (AV.bool (elemB (Bas.gr b) x)) (.out (AV.bool (x != 1 && elemB b.1 x)) [] (AV.bool (msgB (Bas.gr b) x)) []))
    (by kernel_rfl) ?_
  refine k_scg (fun h0 => (elementR_c b) (x) (by assumption)) ?_
  exact k_out (Ent.refl _)

theorem validR_c (b : Bas) (h h1 h2 : Int) (hw : b.gr.W) : Pure Tryz.prog gl0 206 [b.av, .agg [.int .i64 h, .int .i64 h1, .int .i64 h2]] (.bool (keyB b h h1 h2)) := by
  refine pure_sk (own := ow0) Tryz.func206 (by kernel_rfl) mixed (by kernel_rfl)
    (.sc (true) 52 ([AV.agg (Bas.cells b)]) (AV.bool (validB b)) (.sc (validB b == true) 207 ([AV.agg (Bas.cells b), Zi h]) (AV.bool (msgB (Bas.gr b) h)) (.sc ((validB b && msgB b.1 h) == true) 207 ([AV.agg (Bas.cells b), Zi h1]) (AV.bool (msgB (Bas.gr b) h1)) (.sc ((validB b && msgB b.1 h && msgB b.1 h1) == true) 207 ([AV.agg (Bas.cells b), Zi h2]) (AV.bool (msgB (Bas.gr b) h2)) (.out (AV.bool (validB b && msgB b.1 h && msgB b.1 h1 && msgB b.1 h2)) [] (AV.bool (keyB b h h1 h2)) [])))))
    (by kernel_rfl) ?_
  refine k_sc ((bvalid_c b) (by assumption)) ?_
  refine k_scg (fun h1 => (messageR_c b) (h) (by assumption)) ?_
  refine k_scg (fun h2 => (messageR_c b) (h1) (by assumption)) ?_
  refine k_scg (fun h3 => (messageR_c b) (h2) (by assumption)) ?_
  exact k_out (Ent.refl _)

theorem rmsg_c (G : Grp) (x : Int) (hw : G.Ok) : Pure Tryz.prog gl0 162 [G.av, .int .i64 x] (.bool (msgB G x)) := by
  refine pure_sk (own := ow0) Tryz.func162 (by kernel_rfl) mixed (by kernel_rfl)
    (.sc ((x != 1) == true) 78 ([AV.agg [Zi G.1, Zi G.2, Zi G.3], Zi x]) (AV.bool (elemB G x)) (.out (AV.bool (x != 1 && elemB G x)) [] (AV.bool (msgB G x)) []))
    (by kernel_rfl) ?_
  refine k_scg (fun h0 => (member_c G) (x) (by assumption)) ?_
  exact k_out (Ent.refl _)

theorem rkey_c (b : Bas) (h h1 h2 : Int) (hw : b.gr.W) : Pure Tryz.prog gl0 158 [b.av, .agg [.int .i64 h, .int .i64 h1, .int .i64 h2]] (.bool (keyB b h h1 h2)) := by
  refine pure_sk (own := ow0) Tryz.func158 (by kernel_rfl) mixed (by kernel_rfl)
    (let y0 : List AV := [Zi (Bas.gr b).1, Zi (Bas.gr b).2, Zi (Bas.gr b).3]; (.sc (true) 19 ([AV.agg (Bas.cells b)]) (AV.bool (validB b)) (.sc (validB b == true) 162 ([AV.agg y0, Zi h]) (AV.bool (msgB (Bas.gr b) h)) (.sc ((validB b && msgB b.1 h) == true) 162 ([AV.agg y0, Zi h1]) (AV.bool (msgB (Bas.gr b) h1)) (.sc ((validB b && msgB b.1 h && msgB b.1 h1) == true) 162 ([AV.agg y0, Zi h2]) (AV.bool (msgB (Bas.gr b) h2)) (.out (AV.bool (validB b && msgB b.1 h && msgB b.1 h1 && msgB b.1 h2)) [] (AV.bool (keyB b h h1 h2)) []))))))
    (by kernel_rfl) ?_
  refine k_sc ((r11valid_c b) (hw)) ?_
  refine k_scg (fun h1 => (rmsg_c (Bas.gr b)) (h) ((validB_iff.1 (by simp at h1; simp [h1])).G)) ?_
  refine k_scg (fun h2 => (rmsg_c (Bas.gr b)) (h1) ((validB_iff.1 (by simp at h2; simp [h2])).G)) ?_
  refine k_scg (fun h3 => (rmsg_c (Bas.gr b)) (h2) ((validB_iff.1 (by simp at h3; simp [h3])).G)) ?_
  exact k_out (Ent.refl _)

end Go.Proofs.YtdaaddkipdmajaaGreatDoor

namespace Go.Proofs.YtdaaddkipdmajaaGreatDoor
open Go Go.Am Go.Sp
set_option maxRecDepth 100000

theorem denomV_c0 (v d : Int) : Pure Tryz.prog gl0 205 [.isl 2 1 fun _ k => atL [.int .i64 v, .int .i64 d] k] (.bool (oneB v d)) := by
  have hs := (single_c v d)
  refine pure_sk (own := ow0) Tryz.func205 (by kernel_rfl) mixed (by kernel_rfl)
    (let y0 : AV := (AV.bool (oneB v d)); (.ff (.loop ({ x : Nat // x ≤ 1 ∧ (fun (x : Nat) => 0 < x → oneB v d = true) x }) (fun (x : { x : Nat // x ≤ 1 ∧ (fun (x : Nat) => 0 < x → oneB v d = true) x }) => mkSt [0, 12, 13, 14, 2, 15] [AV.isl 2 1 fun (x k : Nat) => atL [Zi v, Zi d] k, AV.bool false, AV.isl 2 1 fun (x k : Nat) => atL [Zi v, Zi d] k, Zi (↑(1) : Int), AV.bool false, Zi (↑(x.1) : Int)] []) (fun (x : { x : Nat // x ≤ 1 ∧ (fun (x : Nat) => 0 < x → oneB v d = true) x }) => 1 - x.1) (⟨0, ⟨Nat.zero_le 1, fun (h : 0 < 0) => absurd h (Nat.lt_irrefl 0)⟩⟩) ([0, 12, 13, 14, 2, 15]) ([]) ([AV.isl 2 1 fun (x k : Nat) => atL [Zi v, Zi d] k, AV.bool false, AV.isl 2 1 fun (x k : Nat) => atL [Zi v, Zi d] k, Zi (↑(1) : Int), AV.bool false, Zi 0]) ([]) (fun x1 => (.br (decide ((↑x1.1 : Int) < (↑(1) : Int))) (.req ((0 : Int) ≤ (↑x1.1 : Int) ∧ (↑x1.1 : Int) < (↑(1) : Int)) (.sc (true) 245 ([AV.agg [Zi v, Zi d]]) y0 (.br (!oneB v d) (.out (AV.bool false) [] y0 []) (.req ((decide ((↑x1.1 : Int) > 0) == true) = true → (0 : Int) ≤ IntKind.wrap IntKind.i64 ((↑x1.1 : Int) - 1) ∧ IntKind.wrap IntKind.i64 ((↑x1.1 : Int) - 1) < (↑(1) : Int)) (.req ((decide ((↑x1.1 : Int) > 0) == true && decide (v < v) == false) = true → (0 : Int) ≤ IntKind.wrap IntKind.i64 ((↑x1.1 : Int) - 1) ∧ IntKind.wrap IntKind.i64 ((↑x1.1 : Int) - 1) < (↑(1) : Int)) (.req ((decide ((↑x1.1 : Int) > 0) == true && decide (v < v) == false && (v == v) == true) = true → (0 : Int) ≤ IntKind.wrap IntKind.i64 ((↑x1.1 : Int) - 1) ∧ IntKind.wrap IntKind.i64 ((↑x1.1 : Int) - 1) < (↑(1) : Int)) (.br (decide ((↑x1.1 : Int) > 0) && (decide (v < v) || v == v && decide (d ≤ d))) (.out (AV.bool false) [] y0 []) (.again (Again 0 (fun (x : { x : Nat // x ≤ 1 ∧ (fun (x : Nat) => 0 < x → oneB v d = true) x }) => mkSt [0, 12, 13, 14, 2, 15] [AV.isl 2 1 fun (x k : Nat) => atL [Zi v, Zi d] k, AV.bool false, AV.isl 2 1 fun (x k : Nat) => atL [Zi v, Zi d] k, Zi (↑(1) : Int), AV.bool false, Zi (↑(x.1) : Int)] []) (fun (x : { x : Nat // x ≤ 1 ∧ (fun (x : Nat) => 0 < x → oneB v d = true) x }) => 1 - x.1) x1) ([0, 12, 13, 14, 2, 15]) ([]) ([AV.isl 2 1 fun (x k : Nat) => atL [Zi v, Zi d] k, AV.bool false, AV.isl 2 1 fun (x k : Nat) => atL [Zi v, Zi d] k, Zi (↑(1) : Int), AV.bool false, Zi (IntKind.wrap IntKind.i64 ((↑x1.1 : Int) + 1))]) ([]))))))))) (.out (AV.bool true) [] y0 []))))))
    (by kernel_rfl) ?_
  refine k_ff ?_
  refine k_loop (fun _ hs => hs.le (⟨.refl _, .refl _, .refl _, .refl _, .refl _, .refl _, trivial⟩) (trivial)) (fun x1 => ?_)
  try (have q1 := x1.2; dsimp only at q1)
  refine k_br (fun h2 => ?_) (fun h2 => ?_)
  · have g2 := cnd_dec_t h2
    refine k_req (by omega) ?_
    refine k_sc (hs) ?_
    refine k_br (fun h5 => ?_) (fun h5 => ?_)
    · have g5 := (cnd_not_t cnd_id_f) h5
      exact k_out (by exact Ent.of_eq (congrArg _ (by simp_all)))
    · have g5 := (cnd_not_f cnd_id_t) h5
      refine k_req (fun hr => by have hr := (cnd_eqt_t cnd_dec_t) hr; omega) ?_
      refine k_req (fun hr => by have hr := (cnd_and_t (cnd_eqt_t cnd_dec_t) (cnd_eqf_t cnd_dec_f)) hr; omega) ?_
      refine k_req (fun hr => by have hr := (cnd_and_t (cnd_and_t (cnd_eqt_t cnd_dec_t) (cnd_eqf_t cnd_dec_f)) (cnd_eqt_t cnd_beq_t)) hr; omega) ?_
      refine k_br (fun h10 => ?_) (fun h10 => ?_)
      · have g10 := (cnd_and_t cnd_dec_t (cnd_or_t cnd_dec_t (cnd_and_t cnd_beq_t cnd_dec_t))) h10
        exact k_out (by (exfalso; omega))
      · have g10 := (cnd_and_f cnd_dec_f (cnd_or_f cnd_dec_f (cnd_and_f cnd_beq_f cnd_dec_f))) h10
        exact k_again (⟨x1.1 + 1, by omega, fun _ => g5⟩) (fun _ hs => hs.le (⟨.refl _, .refl _, .refl _, .refl _, .refl _, inc_ent (by omega), trivial⟩) (trivial)) (by dsimp only; omega)
  · have g2 := cnd_dec_f h2
    exact k_out (by exact Ent.of_eq (congrArg _ (q1.2 (by omega)).symm))

theorem denomV_c (v d : Int) : Pure Tryz.prog gl0 205 [.isl 2 1 fun r k => atL (List.getD [[.int .i64 v, .int .i64 d]] r []) k] (.bool (oneB v d)) :=
  (denomV_c0 v d).via ⟨Ent.isl fun i j hi _ => by obtain rfl : i = 0 := Nat.lt_one_iff.1 hi
                                                  rfl, trivial⟩

theorem recV_c (b : Bas) (r : Rcd) (hw : b.gr.W) : Pure Tryz.prog gl0 143 [b.av, r.av] (.bool (rcvB b r)) := by
  have h1 := denomV_c r.value r.depth
  have h2 := validR_c b r.h r.h1 r.h2 hw
  refine pure_sk (own := ow0) Tryz.func143 (by kernel_rfl) mixed (by kernel_rfl)
    (.sc (true) 203 ([Zi r.1, Zi r.2, Zi r.9, Zi r.10, Zi r.11]) (AV.bool (numR r.1 r.2 r.9 r.10 r.11)) (.sc (numR r.1 r.2 r.9 r.10 r.11 == true) 204 ([Zi r.3, Zi 0, Zi 16]) (AV.bool (rngB r.3 (0 : Int) (16 : Int))) (.sc ((numR r.1 r.2 r.9 r.10 r.11 && rngB r.3 (0 : Int) (16 : Int)) == true && (r.4 == 0 && r.5 == 0) == false) 205 ([AV.isl 2 1 fun (r_1 k : Nat) => atL (List.getD [[Zi r.4, Zi r.5]] (r_1 + 0) []) k]) (AV.bool (oneB (Rcd.value r) (Rcd.depth r))) (.sc ((numR r.1 r.2 r.9 r.10 r.11 && rngB r.3 (0 : Int) (16 : Int) && (r.4 == 0 && r.5 == 0 || oneB r.4 r.5)) == true) 206 ([AV.agg (Bas.cells b), AV.agg [Zi r.6, Zi r.7, Zi r.8]]) (AV.bool (keyB b (Rcd.h r) (Rcd.h1 r) (Rcd.h2 r))) (.out (AV.bool (numR r.1 r.2 r.9 r.10 r.11 && rngB r.3 (0 : Int) (16 : Int) && (r.4 == 0 && r.5 == 0 || oneB r.4 r.5) && keyB b r.6 r.7 r.8)) [] (AV.bool (rcvB b r)) [])))))
    (by kernel_rfl) ?_
  refine k_sc (numbers_c (r.1) (r.2) (r.9) (r.10) (r.11)) ?_
  refine k_scg (fun h1 => within_r (r.3) ((0 : Int)) ((16 : Int))) ?_
  refine k_scg (fun h2 => h1) ?_
  refine k_scg (fun h3 => h2) ?_
  exact k_out (Ent.of_eq (congrArg _ rec_1))

theorem rrecV_c (b : Bas) (r : Rcd) (hw : b.gr.W) : Pure Tryz.prog gl0 79 [b.av, r.av] (.bool (rcvB b r)) := by
  have h1 := one_c r.value r.depth
  have h2 := rkey_c b r.h r.h1 r.h2 hw
  refine pure_sk (own := ow0) Tryz.func79 (by kernel_rfl) mixed (by kernel_rfl)
    (.sc (true) 158 ([AV.agg (Bas.cells b), AV.agg [Zi r.6, Zi r.7, Zi r.8]]) (AV.bool (keyB b (Rcd.h r) (Rcd.h1 r) (Rcd.h2 r))) (.sc (keyB b r.6 r.7 r.8 == true) 159 ([Zi r.1, Zi r.2, Zi r.9, Zi r.10, Zi r.11]) (AV.bool (numR r.1 r.2 r.9 r.10 r.11)) (.sc ((keyB b r.6 r.7 r.8 && numR r.1 r.2 r.9 r.10 r.11) == true) 160 ([Zi r.3, Zi 0, Zi 16]) (AV.bool (rngB r.3 (0 : Int) (16 : Int))) (.sc ((keyB b r.6 r.7 r.8 && numR r.1 r.2 r.9 r.10 r.11 && rngB r.3 (0 : Int) (16 : Int)) == true) 161 ([AV.agg [Zi r.4, Zi r.5]]) (AV.bool (oneB (Rcd.value r) (Rcd.depth r))) (.out (AV.bool (keyB b r.6 r.7 r.8 && numR r.1 r.2 r.9 r.10 r.11 && rngB r.3 (0 : Int) (16 : Int) && oneB r.4 r.5)) [] (AV.bool (rcvB b r)) [])))))
    (by kernel_rfl) ?_
  refine k_sc (h2) ?_
  refine k_scg (fun h1 => frame_c (r.1) (r.2) (r.9) (r.10) (r.11)) ?_
  refine k_scg (fun h2 => rin_c (r.3) ((0 : Int)) ((16 : Int))) ?_
  refine k_scg (fun h3 => h1) ?_
  exact k_out (Ent.refl _)

theorem numI_c (n : Int) : Pure Tryz.prog gl0 248 [.int .i64 n] (It.int n).av := by
  refine pure_sk (own := ow0) Tryz.func248 (by kernel_rfl) mixed (by kernel_rfl)
    (.out (AV.agg [Zi 1, Zi n, AV.nsl, AV.nsl]) [] (It.av (It.int n)) [])
    (by kernel_rfl) ?_
  exact k_out (Ent.agg ⟨Ent.refl _, Ent.refl _, Ent.nsl, Ent.nsl, trivial⟩)

theorem rnumI_c (n : Int) : Pure Tryz.prog gl0 221 [.int .i64 n] (It.int n).av := by
  refine pure_sk (own := ow0) Tryz.func221 (by kernel_rfl) mixed (by kernel_rfl)
    (.out (AV.agg [Zi 1, Zi n, AV.nsl, AV.nsl]) [] (It.av (It.int n)) [])
    (by kernel_rfl) ?_
  exact k_out (Ent.agg ⟨Ent.refl _, Ent.refl _, Ent.nsl, Ent.nsl, trivial⟩)

theorem rNumbers_c (b : Bas) : Pure Tryz.prog gl0 220 [b.av] (.isl 1 6 fun i _ => .int .i64 (crtL b 0 i)) := by
  refine pure_sk (own := ow0) Tryz.func220 (by kernel_rfl) mixed (by kernel_rfl)
    (.out (AV.isl 1 6 fun (r k : Nat) => atL (List.getD [[Zi (Bas.gr b).1], [Zi (Bas.gr b).2], [Zi (Bas.gr b).3], [Zi b.2], [Zi b.3], [Zi b.4]] (r + 0) []) k) [] (AV.isl 1 6 fun (i x : Nat) => Zi (crtL b (0 : Int) i)) [])
    (by kernel_rfl) ?_
  exact k_out (Ent.isl fun i j hi hj => by obtain rfl : j = 0 := Nat.lt_one_iff.1 hj; match i, hi with | 0, _ | 1, _ | 2, _ | 3, _ | 4, _ | 5, _ => rfl)

theorem relems_c (G : Grp) (z sa sb r : Int) (hw : G.Ok) : Pure Tryz.prog gl0 163 [G.av, .agg [.int .i64 z, .int .i64 sa, .int .i64 sb, .int .i64 r]] (.bool (elsB G z sa sb)) := by
  refine pure_sk (own := ow0) Tryz.func163 (by kernel_rfl) mixed (by kernel_rfl)
    (let y0 : List AV := [Zi G.1, Zi G.2, Zi G.3]; (.sc (true) 78 ([AV.agg y0, Zi z]) (AV.bool (elemB G z)) (.sc (elemB G z == true) 78 ([AV.agg y0, Zi sa]) (AV.bool (elemB G sa)) (.sc ((elemB G z && elemB G sa) == true) 78 ([AV.agg y0, Zi sb]) (AV.bool (elemB G sb)) (.out (AV.bool (elemB G z && elemB G sa && elemB G sb)) [] (AV.bool (elsB G z sa sb)) [])))))
    (by kernel_rfl) ?_
  refine k_sc ((member_c G) (z) (by assumption)) ?_
  refine k_scg (fun h1 => (member_c G) (sa) (by assumption)) ?_
  refine k_scg (fun h2 => (member_c G) (sb) (by assumption)) ?_
  exact k_out (Ent.refl _)

theorem scalR_c (b : Bas) (x : Int) : Pure Tryz.prog gl0 208 [b.av, .int .i64 x] (.bool (decide (x ≥ 0) && decide (x < b.gr.q))) := by
  refine pure_sk (own := ow0) Tryz.func208 (by kernel_rfl) mixed (by kernel_rfl)
    (.out (AV.bool (decide (x ≥ 0) && decide (x < (Bas.gr b).2))) [] (AV.bool (decide (x ≥ 0) && decide (x < Grp.q (Bas.gr b)))) [])
    (by kernel_rfl) ?_
  exact k_out (Ent.refl _)

theorem rscalR_c (G : Grp) (x : Int) : Pure Tryz.prog gl0 164 [G.av, .int .i64 x] (.bool (decide (x ≥ 0) && decide (x < G.q))) := by
  refine pure_sk (own := ow0) Tryz.func164 (by kernel_rfl) mixed (by kernel_rfl)
    (.out (AV.bool (decide (x ≥ 0) && decide (x < G.2))) [] (AV.bool (decide (x ≥ 0) && decide (x < Grp.q G))) [])
    (by kernel_rfl) ?_
  exact k_out (Ent.refl _)

theorem powR_c (b : Bas) (x e : Int) (h : b.gr.Ok) (hx : 0 ≤ x ∧ x < b.gr.p) (he : 0 ≤ e ∧ e < b.gr.q) : Pure Tryz.prog gl0 210 [b.av, .int .i64 x, .int .i64 e] (.int .i64 (x ^ e.toNat % b.gr.p)) := by
  have k1 := h.p1; have k2 := h.qp; have k3 := h.p3
  have k5 := powE_0 (chk_ok (a := x) (b := x) (m := b.gr.p) (by omega) (by omega) (by omega) (by omega) (by omega) (by omega)) (by omega : ¬ e < 0)
  refine pure_sk (own := ow0) Tryz.func210 (by kernel_rfl) mixed (by kernel_rfl)
    (.sc (true) 128 ([Zi x, Zi e, Zi (Bas.gr b).1]) (AV.tup [Zi (okv (powE x e (Bas.gr b).1) (x ^ Int.toNat e % (Bas.gr b).1)), Zi (powE x e (Bas.gr b).1)]) (.out (Zi (okv (powE x e (Bas.gr b).1) (x ^ Int.toNat e % (Bas.gr b).1))) [] (Zi (x ^ Int.toNat e % Grp.p (Bas.gr b))) []))
    (by kernel_rfl) ?_
  refine k_sc (wpow_c (x) (e) ((Bas.gr b).1) (by omega)) ?_
  exact k_out (Ent.of_eq (by rw [k5]; rfl))

theorem rpowR_c (G : Grp) (x e : Int) (h : G.Ok) (hx : 0 ≤ x ∧ x < G.p) (he : 0 ≤ e ∧ e < G.q) : Pure Tryz.prog gl0 166 [G.av, .int .i64 x, .int .i64 e] (.int .i64 (x ^ e.toNat % G.p)) := by
  have k1 := h.p1; have k2 := h.qp; have k3 := h.p3
  refine pure_sk (own := ow0) Tryz.func166 (by kernel_rfl) mixed (by kernel_rfl)
    (.sc (true) 104 ([Zi x, Zi e, Zi G.1]) (Zi (x ^ Int.toNat e % G.1)) (.out (Zi (x ^ Int.toNat e % G.1)) [] (Zi (x ^ Int.toNat e % Grp.p G)) []))
    (by kernel_rfl) ?_
  refine k_sc (rpow_c (x) (e) (G.1) (by omega) (by omega) (by omega) (by omega) (by assumption)) ?_
  exact k_out (Ent.refl _)

theorem mulR_c (b : Bas) (x y : Int) (h : b.gr.Ok) (hx : 0 ≤ x ∧ x < b.gr.p) (hy : 0 ≤ y ∧ y < b.gr.p) : Pure Tryz.prog gl0 249 [b.av, .int .i64 x, .int .i64 y] (.int .i64 (x * y % b.gr.p)) := by
  have k1 := h.p1; have k3 := h.p3
  have k2 := chk_ok (a := x) (b := y) (m := b.gr.p) (by omega) (by omega) (by omega) (by omega) (by omega) (by omega)
  refine pure_sk (own := ow0) Tryz.func249 (by kernel_rfl) mixed (by kernel_rfl)
    (.sc (true) 113 ([Zi x, Zi y, Zi (Bas.gr b).1]) (AV.tup [Zi (okv (chkI x y (Bas.gr b).1) (x * y % (Bas.gr b).1)), Zi (chkI x y (Bas.gr b).1)]) (.out (Zi (okv (chkI x y (Bas.gr b).1) (x * y % (Bas.gr b).1))) [] (Zi (x * y % Grp.p (Bas.gr b))) []))
    (by kernel_rfl) ?_
  refine k_sc (wmul_c (x) (y) ((Bas.gr b).1)) ?_
  exact k_out (Ent.of_eq (by rw [k2]; rfl))

theorem rmulR_c (G : Grp) (x y : Int) (h : G.Ok) (hx : 0 ≤ x ∧ x < G.p) (hy : 0 ≤ y ∧ y < G.p) : Pure Tryz.prog gl0 167 [G.av, .int .i64 x, .int .i64 y] (.int .i64 (x * y % G.p)) := by
  have k1 := h.p1; have k3 := h.p3
  refine pure_sk (own := ow0) Tryz.func167 (by kernel_rfl) mixed (by kernel_rfl)
    (.sc (true) 64 ([Zi x, Zi y, Zi G.1]) (Zi (x * y % G.1)) (.out (Zi (x * y % G.1)) [] (Zi (x * y % Grp.p G)) []))
    (by kernel_rfl) ?_
  refine k_sc (rmul_c (x) (y) (G.1) (by omega) (by omega) (by omega) (by omega) (by assumption)) ?_
  exact k_out (Ent.refl _)

theorem prodR_c (b : Bas) (x e y : Int) (h : b.gr.Ok) (hx : 0 ≤ x ∧ x < b.gr.p) (he : 0 ≤ e ∧ e < b.gr.q) (hy : 0 ≤ y ∧ y < b.gr.p) : Pure Tryz.prog gl0 211 [b.av, .int .i64 x, .int .i64 e, .int .i64 y, .int .i64 1] (.int .i64 (x ^ e.toNat % b.gr.p * y % b.gr.p)) := by
  have k1 := h.p1; have k3 := h.p3; have kq := h.q3
  have c1 := powR_c b x e h hx he
  have c2 := powR_c b y 1 h hy (by omega)
  have m1 : 0 ≤ x ^ e.toNat % b.gr.p ∧ x ^ e.toNat % b.gr.p < b.gr.p := ⟨Int.emod_nonneg _ (by omega), Int.emod_lt_of_pos _ (by omega)⟩
  have y1 : y ^ (1 : Int).toNat % b.gr.p = y := by rw [show (1 : Int).toNat = 1 from rfl, Int.pow_succ, Int.pow_zero, Int.one_mul, Int.emod_eq_of_lt hy.1 hy.2]
  rw [y1] at c2
  have c3 := mulR_c b _ y h m1 hy
  refine pure_sk (own := ow0) Tryz.func211 (by kernel_rfl) mixed (by kernel_rfl)
    (let y0 : AV := (Zi (x ^ Int.toNat e % Grp.p (Bas.gr b) * y % Grp.p (Bas.gr b))); (.sc (true) 210 ([AV.agg (Bas.cells b), Zi x, Zi e]) (Zi (x ^ Int.toNat e % Grp.p (Bas.gr b))) (.sc (true) 210 ([AV.agg (Bas.cells b), Zi y, Zi 1]) (Zi y) (.sc (true) 249 ([AV.agg (Bas.cells b), Zi (x ^ Int.toNat e % (Bas.gr b).1), Zi y]) y0 (.out (Zi (x ^ Int.toNat e % (Bas.gr b).1 * y % (Bas.gr b).1)) [] y0 [])))))
    (by kernel_rfl) ?_
  refine k_sc (c1) ?_
  refine k_sc (c2) ?_
  refine k_sc (c3) ?_
  exact k_out (Ent.refl _)

theorem elemsR_c0 (b : Bas) (u0 u1 u2 u3 : Int) (hw : b.gr.W) : Pure Tryz.prog gl0 247 [b.av, .isl 1 4 fun i _ => .int .i64 (elF u0 u1 u2 u3 i)] (.bool (elemB b.gr u0 && elsB b.gr u1 u2 u3)) := by
  have e : allI (fun i => elemB b.gr (elF u0 u1 u2 u3 i)) 4 = (elemB b.gr u0 && elsB b.gr u1 u2 u3) := allE4
  rw [← e]; clear e
  refine pure_sk (own := ow0) Tryz.func247 (by kernel_rfl) mixed (by kernel_rfl)
    (let y0 : List (Option Ob) := [some ⟨6, 1, true, Rep.lst [Bas.cells b]⟩]; let y1 : AV := (AV.bool (allI (fun (i : Nat) => elemB (Bas.gr b) (elF u0 u1 u2 u3 i)) 4)); (.loop ({ x : Nat // x ≤ 4 ∧ (fun (i : Nat) => ∀ (j : Nat), j < i → elemB (Bas.gr b) (elF u0 u1 u2 u3 j) = true) x }) (fun (x : { x : Nat // x ≤ 4 ∧ (fun (i : Nat) => ∀ (j : Nat), j < i → elemB (Bas.gr b) (elF u0 u1 u2 u3 j) = true) x }) => mkSt [2, 7, 8, 9] [AV.own 0 6 0 0 6, AV.isl 1 4 fun (i x : Nat) => Zi (elF u0 u1 u2 u3 i), Zi (↑(4) : Int), Zi (↑(x.1) : Int)] y0) (fun (x : { x : Nat // x ≤ 4 ∧ (fun (i : Nat) => ∀ (j : Nat), j < i → elemB (Bas.gr b) (elF u0 u1 u2 u3 j) = true) x }) => 4 - x.1) (⟨0, ⟨Nat.zero_le 4, fun (j : Nat) (hj : j < 0) => absurd hj (Nat.not_lt_zero j)⟩⟩) ([2, 7, 8, 9]) ([0]) ([AV.own 0 6 0 0 6, AV.isl 1 4 fun (i x : Nat) => Zi (elF u0 u1 u2 u3 i), Zi (↑(4) : Int), Zi 0]) (y0) (fun x0 => (.br (decide ((↑x0.1 : Int) < (↑(4) : Int))) (.req ((0 : Int) ≤ (↑x0.1 : Int) ∧ (↑x0.1 : Int) < (↑(4) : Int)) (.sc (true) 246 ([AV.agg (Bas.cells b), Zi (elF u0 u1 u2 u3 (Int.toNat (↑x0.1 : Int)))]) (AV.bool (elemB (Bas.gr b) (elF u0 u1 u2 u3 (Int.toNat (↑x0.1 : Int))))) (.br (!elemB b.1 (elF u0 u1 u2 u3 (Int.toNat (↑x0.1 : Int)))) (.out (AV.bool false) [] y1 []) (.again (Again 0 (fun (x : { x : Nat // x ≤ 4 ∧ (fun (i : Nat) => ∀ (j : Nat), j < i → elemB (Bas.gr b) (elF u0 u1 u2 u3 j) = true) x }) => mkSt [2, 7, 8, 9] [AV.own 0 6 0 0 6, AV.isl 1 4 fun (i x : Nat) => Zi (elF u0 u1 u2 u3 i), Zi (↑(4) : Int), Zi (↑(x.1) : Int)] y0) (fun (x : { x : Nat // x ≤ 4 ∧ (fun (i : Nat) => ∀ (j : Nat), j < i → elemB (Bas.gr b) (elF u0 u1 u2 u3 j) = true) x }) => 4 - x.1) x0) ([2, 7, 8, 9]) ([0]) ([AV.own 0 6 0 0 6, AV.isl 1 4 fun (i x : Nat) => Zi (elF u0 u1 u2 u3 i), Zi (↑(4) : Int), Zi (IntKind.wrap IntKind.i64 ((↑x0.1 : Int) + 1))]) (y0))))) (.out (AV.bool true) [] y1 [])))))
    (by kernel_rfl) ?_
  refine k_loop (fun _ hs => hs.le (⟨.refl _, .refl _, .refl _, .refl _, trivial⟩) (⟨.refl _, trivial⟩)) (fun x0 => ?_)
  try (have q0 := x0.2; dsimp only at q0)
  refine k_br (fun h1 => ?_) (fun h1 => ?_)
  · have g1 := cnd_dec_t h1
    refine k_req (by omega) ?_
    refine k_sc ((elementR_c b) (elF u0 u1 u2 u3 (Int.toNat (↑x0.1 : Int))) (by assumption)) ?_
    refine k_br (fun h4 => ?_) (fun h4 => ?_)
    · have g4 := (cnd_not_t cnd_id_f) h4
      try simp only [Int.toNat_natCast] at g4
      exact k_out (by exact Ent.of_eq (congrArg _ (allI_f (i := x0.1) (by omega) g4).symm))
    · have g4 := (cnd_not_f cnd_id_t) h4
      try simp only [Int.toNat_natCast] at g4
      exact k_again (⟨x0.1 + 1, by omega, all_next q0.2 g4⟩) (fun _ hs => hs.le (⟨.refl _, .refl _, .refl _, inc_ent (by omega), trivial⟩) (⟨.refl _, trivial⟩)) (by dsimp only; omega)
  · have g1 := cnd_dec_f h1
    exact k_out (by exact Ent.of_eq (congrArg _ (allI_t fun i hi => q0.2 i (by omega)).symm))

theorem elemsR_c (b : Bas) (x0 x1 x2 x3 : Int) (hw : b.gr.W) : Pure Tryz.prog gl0 247 [b.av, .isl 1 4 fun r k => atL (List.getD [[.int .i64 x0], [.int .i64 x1], [.int .i64 x2], [.int .i64 x3]] r []) k] (.bool (elemB b.gr x0 && elsB b.gr x1 x2 x3)) :=
  (elemsR_c0 b x0 x1 x2 x3 hw).via ⟨Ent.refl _, Ent.isl fun i j hi hj => by obtain rfl : j = 0 := Nat.lt_one_iff.1 hj
                                                                            match i, hi with | 0, _ | 1, _ | 2, _ | 3, _ => rfl, trivial⟩


end Go.Proofs.YtdaaddkipdmajaaGreatDoor

namespace Go.Sp
open Go Go.Am

def crtJ (b : Bas) (a : Int) (root : Nat → Int) (z sa sb : Int) : List It := [.int b.gr.p, .int b.gr.q, .int b.gr.g, .int b.g1, .int b.g2, .int b.h, .int a, .byt 32 root, .int z, .int sa, .int sb]
theorem liU_out {os : List (Option Ob)} {L : List It} {n : Nat} {F : Nat → Nat → AV} (hn : n = L.length) (h : ∀ i k, i < n → k < 4 → Ent os (F i k) (atL (L.getD i (.int 0)).cells k)) :
    Ent os (.agg [.int .i64 3, .int .i64 0, .nsl, .isl 4 n F]) (lsI L).av := by
  subst hn
  exact Ent.agg ⟨Ent.refl _, Ent.refl _, Ent.nsl, Ent.islE (fun i j hi hj => ⟨h i j hi hj, It.cl_at _ j hj⟩), trivial⟩
theorem byt_root {os : List (Option Ob)} (n : Nat) {f g : Nat → Int} (h : ∀ i, i < n → f i = g i) : EntL os [.int .i64 2, .int .i64 0, .isl 1 n fun i _ => .int .u8 (f i), .nsl] (It.byt n g).cells :=
  ⟨Ent.refl _, Ent.refl _, Ent.isl fun i _ hi _ => congrArg (AV.int .u8) (h i hi), Ent.nsl, trivial⟩
theorem crtF_ok {os : List (Option Ob)} {b : Bas} {a z sa sb : Int} {root : Nat → Int} {x : Nat} (hx : x = 7) {i k : Nat} (hi : i < x + 4) :
    Ent os (mixA (Nat.blt (i + 0) x) (atL (It.int (crtL b a (i + 0))).cells k)
      (atL (List.getD [[AV.int IntKind.i64 (2 : Int), AV.int IntKind.i64 (0 : Int), AV.isl 1 32 fun (r _ : Nat) => AV.int IntKind.u8 (intOfAV (atL (u8c root) (0 + (0 + r)))), AV.nsl], (It.int z).cells, (It.int sa).cells, (It.int sb).cells] (i + 0 - x) []) k))
      (atL ((crtJ b a root z sa sb).getD i (.int 0)).cells k) := by
  subst hx
  match i, hi with
  | 0, _ | 1, _ | 2, _ | 3, _ | 4, _ | 5, _ | 6, _ => exact Ent.of_eq (mixA_tt _ _)
  | 7, _ =>
    show Ent os (mixA false _ _) _
    rw [mixA_ff]
    refine Ent.atL (byt_root 32 fun i hi => ?_) k
    rw [Nat.zero_add, Nat.zero_add]
    exact u8c_at hi
  | 8, _ | 9, _ | 10, _ => exact Ent.of_eq (mixA_ff _ _)
theorem rcrtF_ok {os : List (Option Ob)} {b : Bas} {a z sa sb : Int} {root : Nat → Int} {x y : Nat} (hx : x = 6) (hy : y = 32) {i k : Nat} (hi : i < x + 5) :
    Ent os (mixA (Nat.blt (i + 0) x) (atL (It.int (crtL b 0 (i + 0))).cells k)
      (atL (List.getD [(It.int a).cells, [AV.int IntKind.i64 (2 : Int), AV.int IntKind.i64 (0 : Int), AV.isl 1 y fun (r _ : Nat) => AV.int IntKind.u8 (root (r + 0)), AV.nsl], (It.int z).cells, (It.int sa).cells, (It.int sb).cells] (i + 0 - x) []) k))
      (atL ((crtJ b a root z sa sb).getD i (.int 0)).cells k) := by
  subst hx; subst hy
  match i, hi with
  | 0, _ | 1, _ | 2, _ | 3, _ | 4, _ | 5, _ => exact Ent.of_eq (mixA_tt _ _)
  | 7, _ =>
    show Ent os (mixA false _ _) _
    rw [mixA_ff]
    exact Ent.atL (byt_root 32 fun i hi => rfl) k
  | 6, _ | 8, _ | 9, _ | 10, _ => exact Ent.of_eq (mixA_ff _ _)
theorem root_push {os : List (Option Ob)} {y y' : Nat} {root c : Nat → Int} (hy : y' = y + 1) (h : c 0 = root y) :
    ObEnt os ⟨1, y + 1, true, .fn fun i j => .int .u8 (bif Nat.blt i y then root i else c j)⟩ ⟨1, y', true, .fn fun i _ => .int .u8 (root i)⟩ := by
  subst hy
  refine ⟨rfl, rfl, rfl, fun i j hi hj => Ent.of_eq ?_⟩
  have hi : i < y + 1 := hi
  obtain rfl : j = 0 := Nat.lt_one_iff.1 hj
  show AV.int .u8 (bif Nat.blt i y then root i else c 0) = .int .u8 (root i)
  by_cases e : i < y
  · rw [blt_t e]; rfl
  · obtain rfl : i = y := by omega
    rw [blt_f (Nat.le_refl _), h]; rfl
theorem rootc_at {root : Nat → Int} {y : Nat} (hy : y < 32) : intOfAV (atL [AV.int .u8 (intOfAV (atL (u8c root) (0 + Int.toNat (y : Int))))] 0) = root y := by
  show intOfAV (atL (u8c root) (0 + Int.toNat (y : Int))) = _
  rw [Nat.zero_add, Int.toNat_natCast]
  exact u8c_at hy
theorem crtI_ok (b : Bas) (a z sa sb : Int) (root : Nat → Int) : (crtI b a root z sa sb).okD 8 = true := by
  simp [crtI, lsI, It.okD, List.range, List.range.loop, List.getD]
theorem crtI_len (b : Bas) (a z sa sb : Int) (root : Nat → Int) : (crtI b a root z sa sb).enc.length = 132 := by
  show (It.encP 11 _ (0 + 1 + 1 + 1 + 1 + 1 + 1 + 1 + 1 + 1 + 1 + 1)).length = _
  repeat rw [It.encP_succ, List.length_append]
  rw [It.encP_zero]
  simp [nbL_len, int_len, byt_len]
theorem crtI_okB {b : Bas} {a z sa sb : Int} {root : Nat → Int} (h : byB root 32) : (crtI b a root z sa sb).okB := fun i hi => by
  have hi : i < 11 := hi
  match i, hi with
  | 0, _ | 1, _ | 2, _ | 3, _ | 4, _ | 5, _ | 6, _ | 8, _ | 9, _ | 10, _ => exact trivial
  | 7, _ => exact h
def crtC (b : Bas) (a : Int) (root : Nat → Int) (z sa sb : Int) : Int := bif crtE b a z sa sb == 0 then crtN b a root z sa sb else 0
def crtV (b : Bas) (a : Int) (root : Nat → Int) (z sa sb : Int) : AV := .tup [.int .i64 (crtC b a root z sa sb), .int .i64 (crtE b a z sa sb)]
theorem crtE_1 {b : Bas} {a z sa sb : Int} (h : validB b = false) : crtE b a z sa sb = 1 := by unfold crtE; rw [h]; rfl
theorem crtE_2 {b : Bas} {a z sa sb : Int} (h : validB b = true) (h' : elemB b.gr a = false ∨ elsB b.gr z sa sb = false) : crtE b a z sa sb = 2 := by
  have e1 : (elemB b.gr a && elsB b.gr z sa sb) = false := by rcases h' with e | e <;> simp [e]
  unfold crtE; rw [h, e1]; rfl
theorem crtE_3 {b : Bas} {a z sa sb : Int} (h : validB b = true) (h' : elemB b.gr a = true ∧ elsB b.gr z sa sb = true) : crtE b a z sa sb = 0 := by
  unfold crtE; rw [h, h'.1, h'.2]; rfl
theorem crtE_0 {b : Bas} {a z sa sb : Int} (h : crtE b a z sa sb = 0) : validB b = true ∧ elemB b.gr a = true ∧ elsB b.gr z sa sb = true := by
  cases hv : validB b with
  | false => rw [crtE_1 hv] at h; cases h
  | true =>
    cases ha : elemB b.gr a with
    | false => rw [crtE_2 hv (.inl ha)] at h; cases h
    | true =>
      cases hs : elsB b.gr z sa sb with
      | false => rw [crtE_2 hv (.inr hs)] at h; cases h
      | true => exact ⟨rfl, rfl, rfl⟩
theorem crtC_n {b : Bas} {a z sa sb : Int} {root : Nat → Int} (e : crtE b a z sa sb = 0) : crtC b a root z sa sb = crtN b a root z sa sb := by unfold crtC; rw [e]; rfl
theorem crt_1 {b : Bas} {a z sa sb : Int} {root : Nat → Int} (h : validB b = false) : AV.tup [.int .i64 0, .int .i64 1] = crtV b a root z sa sb := by
  unfold crtV crtC; rw [crtE_1 h]; rfl
theorem crt_2 {b : Bas} {a z sa sb : Int} {root : Nat → Int} (h : validB b = true) (h' : elemB b.gr a = false ∨ elsB b.gr z sa sb = false) : AV.tup [.int .i64 0, .int .i64 2] = crtV b a root z sa sb := by
  unfold crtV crtC; rw [crtE_2 h h']; rfl
theorem crt_3 {b : Bas} {a z sa sb : Int} {root : Nat → Int} (h : validB b = true) (h' : elemB b.gr a = true ∧ elsB b.gr z sa sb = true) : AV.tup [.int .i64 (crtN b a root z sa sb), .int .i64 0] = crtV b a root z sa sb := by
  unfold crtV crtC; rw [crtE_3 h h']; rfl
theorem crtN_q {b : Bas} {a z sa sb : Int} {root : Nat → Int} (h : b.gr.Ok) : 0 ≤ crtN b a root z sa sb ∧ crtN b a root z sa sb < b.gr.q := num_by (by have := h.q3; omega) 16
end Go.Sp
namespace Go.Sp
open Go Go.Am
def scaB (G : Grp) (x : Int) : Bool := decide (x ≥ 0) && decide (x < G.q)
def eqsB (b : Bas) (h a z sa sb r c : Int) : Bool :=
  (b.gr.g ^ r.toNat % b.gr.p == h ^ c.toNat % b.gr.p * sa % b.gr.p) && (a ^ r.toNat % b.gr.p == z ^ c.toNat % b.gr.p * sb % b.gr.p)
def verR (b : Bas) (h h1 h2 a : Int) (root : Nat → Int) (z sa sb r : Int) : Bool :=
  keyB b h h1 h2 && msgB b.gr a && elsB b.gr z sa sb && scaB b.gr r && (crtN b a root z sa sb != 0 && eqsB b h a z sa sb r (crtN b a root z sa sb))
theorem msg_el {G : Grp} {x : Int} (h : msgB G x = true) : elemB G x = true := by unfold msgB at h; simp only [Bool.and_eq_true] at h; exact h.2
theorem msg_bnd {G : Grp} (hG : G.Ok) {x : Int} (h : msgB G x = true) : 0 ≤ x ∧ x < G.p := by have := elem_bnd hG (msg_el h); omega
theorem el_bnd {G : Grp} (hG : G.Ok) {x : Int} (h : elemB G x = true) : 0 ≤ x ∧ x < G.p := by have := elem_bnd hG h; omega
theorem key_1 {b : Bas} {h0 k1 k2 : Int} (h : keyB b h0 k1 k2 = true) : validB b = true ∧ msgB b.gr h0 = true := by
  unfold keyB at h; simp only [Bool.and_eq_true] at h; exact ⟨h.1.1.1, h.1.1.2⟩
theorem els_1 {G : Grp} {z sa sb : Int} (h : elsB G z sa sb = true) : elemB G z = true ∧ elemB G sa = true ∧ elemB G sb = true := by
  unfold elsB at h; simp only [Bool.and_eq_true] at h; exact ⟨h.1.1, h.1.2, h.2⟩
structure SigOk (b : Bas) (h0 a z sa sb r c : Int) : Prop where
  ok : b.gr.Ok
  g : 0 ≤ b.gr.g ∧ b.gr.g < b.gr.p
  h : 0 ≤ h0 ∧ h0 < b.gr.p
  a : 0 ≤ a ∧ a < b.gr.p
  z : 0 ≤ z ∧ z < b.gr.p
  sa : 0 ≤ sa ∧ sa < b.gr.p
  sb : 0 ≤ sb ∧ sb < b.gr.p
  r : 0 ≤ r ∧ r < b.gr.q
  c : 0 ≤ c ∧ c < b.gr.q
theorem sig_ok {b : Bas} {h0 k1 k2 a z sa sb r : Int} (root : Nat → Int) (hk : keyB b h0 k1 k2 = true) (hm : msgB b.gr a = true) (he : elsB b.gr z sa sb = true) (hr : 0 ≤ r ∧ r < b.gr.q) : SigOk b h0 a z sa sb r (crtN b a root z sa sb) := by
  have G := validB_ok (key_1 hk).1
  have h1 := G.g2
  exact ⟨G, ⟨by omega, G.g1⟩, msg_bnd G (key_1 hk).2, msg_bnd G hm, el_bnd G (els_1 he).1, el_bnd G (els_1 he).2.1, el_bnd G (els_1 he).2.2, hr, crtN_q G⟩
theorem sig_okC {b : Bas} {h0 k1 k2 a z sa sb r : Int} (root : Nat → Int) (hk : keyB b h0 k1 k2 = true) (hm : msgB b.gr a = true) (he : crtE b a z sa sb = 0) (hr : 0 ≤ r ∧ r < b.gr.q) : SigOk b h0 a z sa sb r (crtC b a root z sa sb) := by
  rw [crtC_n he]
  exact sig_ok root hk hm (crtE_0 he).2.2 hr
theorem ver_0 {b : Bas} {h0 k1 k2 a z sa sb r : Int} {root : Nat → Int} (h : keyB b h0 k1 k2 = false ∨ msgB b.gr a = false ∨ elsB b.gr z sa sb = false ∨ scaB b.gr r = false) : verR b h0 k1 k2 a root z sa sb r = false := by
  unfold verR; rcases h with h | h | h | h <;> simp [h]
theorem ver_c {b : Bas} {h0 k1 k2 a z sa sb r : Int} {root : Nat → Int} (hk : keyB b h0 k1 k2 = true) (hm : msgB b.gr a = true) (hc : crtE b a z sa sb ≠ 0 ∨ crtC b a root z sa sb = 0) : verR b h0 k1 k2 a root z sa sb r = false := by
  cases he : elsB b.gr z sa sb with
  | false => exact ver_0 (.inr (.inr (.inl he)))
  | true =>
    have e := crtE_3 (key_1 hk).1 ⟨msg_el hm, he⟩
    rcases hc with h | h
    · exact absurd e h
    · rw [crtC_n e] at h
      unfold verR; simp [h]
theorem ver_e {b : Bas} {h0 k1 k2 a z sa sb r : Int} {root : Nat → Int} (hk : keyB b h0 k1 k2 = true) (hm : msgB b.gr a = true) (hr : 0 ≤ r ∧ r < b.gr.q) (he : crtE b a z sa sb = 0) (hc : crtC b a root z sa sb ≠ 0) :
    verR b h0 k1 k2 a root z sa sb r = eqsB b h0 a z sa sb r (crtC b a root z sa sb) := by
  rw [crtC_n he] at hc ⊢
  unfold verR scaB
  simp [hk, hm, (crtE_0 he).2.2, hr.1, hr.2, hc]
theorem ver_r {b : Bas} {h0 k1 k2 a z sa sb r : Int} {root : Nat → Int} (hk : keyB b h0 k1 k2 = true) (hm : msgB b.gr a = true) (he : elsB b.gr z sa sb = true) (hr : 0 ≤ r ∧ r < b.gr.q) :
    verR b h0 k1 k2 a root z sa sb r = (crtN b a root z sa sb != 0 && eqsB b h0 a z sa sb r (crtN b a root z sa sb)) := by
  unfold verR scaB
  simp [hk, hm, he, hr.1, hr.2]
theorem mod_bnd {G : Grp} (h : G.Ok) (x : Int) : 0 ≤ x % G.p ∧ x % G.p < G.p := by
  have h3 := h.p3
  exact ⟨Int.emod_nonneg _ (by omega), Int.emod_lt_of_pos _ (by omega)⟩
theorem sca_0 {G : Grp} {r : Int} (h : ¬ r ≥ 0 ∨ ¬ r < G.q) : scaB G r = false := by
  unfold scaB
  rcases h with h | h <;> simp <;> omega
end Go.Sp

namespace Go.Proofs.YtdaaddkipdmajaaGreatDoor
open Go Go.Am Go.Sp
set_option maxRecDepth 100000

theorem encU_c (L : List It) (n : Nat) (F : Nat → Nat → AV) (hn : n = L.length) (hF : ∀ i k, i < n → k < 4 → Ent [] (F i k) (atL (L.getD i (.int 0)).cells k)) (h : (lsI L).okD 8 = true) (hl : (lsI L).enc.length ≤ 16384) :
    Pure Tryz.prog gl0 136 [.agg [.int .i64 3, .int .i64 0, .nsl, .isl 4 n F]] (.tup [il .u8 (lsI L).enc, .int .i64 0]) := (encode_c (lsI L) h hl).via ⟨liU_out hn hF, trivial⟩

theorem rencU_c (L : List It) (n : Nat) (F : Nat → Nat → AV) (hn : n = L.length) (hF : ∀ i k, i < n → k < 4 → Ent [] (F i k) (atL (L.getD i (.int 0)).cells k)) (hl : (lsI L).enc.length ≤ 16384) :
    Pure Tryz.prog gl0 124 [.agg [.int .i64 3, .int .i64 0, .nsl, .isl 4 n F]] (il .u8 (lsI L).enc) := (renc_c (lsI L) (by omega)).via ⟨liU_out hn hF, trivial⟩

theorem crt_c (b : Bas) (a : Int) (root : Nat → Int) (z sa sb r : Int) (hw : b.gr.W) (hr : byB root 32) : Pure Tryz.prog gl0 209 [b.av, .int .i64 a, .agg (u8c root), .agg [.int .i64 z, .int .i64 sa, .int .i64 sb, .int .i64 r]] (crtV b a root z sa sb) := by
  have hE := elemsR_c b a z sa sb hw
  have he := fun n F hn hF => encU_c (crtJ b a root z sa sb) n F hn hF (crtI_ok b a z sa sb root) (by rw [show (lsI (crtJ b a root z sa sb)).enc.length = 132 from crtI_len b a z sa sb root]; decide)
  have ht := tagged_c "specie/coin".toUTF8 (by decide) (by decide) (fun k => (crtI b a root z sa sb).enc.getD k 0) (crtI b a root z sa sb).enc.length (by rw [crtI_len]; decide) (It.enc_by (crtI_okB hr))
  have hn := fun h1 h2 => number_c (tagI "specie/coin".toUTF8 (crtI b a root z sa sb)) b.gr.q h1 h2 (tagI_by _ _ _)
  refine pure_sk (own := ow0) Tryz.func209 (by kernel_rfl) mixed (by kernel_rfl)
    (.sc (true) 52 ([AV.agg (Bas.cells b)]) (AV.bool (validB b)) (.br (!validB b) (.out (AV.tup [Zi 0, Zi 1]) [] (crtV b a root z sa sb) []) (.sc (true) 247 ([AV.agg (Bas.cells b), AV.isl 1 4 fun (r k : Nat) => atL (List.getD [[Zi a], [Zi z], [Zi sa], [Zi sb]] (r + 0) []) k]) (AV.bool (elemB (Bas.gr b) a && elsB (Bas.gr b) z sa sb)) (.br (!(elemB b.1 a && elsB b.1 z sa sb)) (.out (AV.tup [Zi 0, Zi 2]) [] (crtV b a root z sa sb) []) (.loop ({ x : Nat // x ≤ 7 }) (fun (x : { x : Nat // x ≤ 7 }) => mkSt [4, 6, 7, 10, 49, 50, 51] [AV.own 0 6 0 0 6, AV.own 1 32 0 0 32, AV.own 2 4 0 0 4, AV.own 3 4 0 0 4, AV.osl 4 1 0 7, Zi (↑(7) : Int), Zi (↑(x.1) : Int)] [some ⟨6, 1, true, Rep.lst [Bas.cells b]⟩, some ⟨32, 1, true, Rep.lst [u8c root]⟩, some ⟨4, 1, true, Rep.lst [[Zi z, Zi sa, Zi sb, Zi r]]⟩, some ⟨4, 1, true, Rep.lst [[Zi 3, Zi 0, AV.nsl, AV.osl 5 4 0 (x.1)]]⟩, some ⟨1, 7, true, Rep.fn fun (i x : Nat) => Zi (crtL b a i)⟩, some ⟨4, x.1, true, Rep.row fun (i : Nat) => It.cells (It.int (crtL b a i))⟩]) (fun (x : { x : Nat // x ≤ 7 }) => 7 - x.1) (⟨0, Nat.zero_le 7⟩) ([4, 6, 7, 10, 49, 50, 51]) ([0, 8, 16, 176, 320, 1373]) ([AV.own 0 6 0 0 6, AV.own 1 32 0 0 32, AV.own 2 4 0 0 4, AV.own 3 4 0 0 4, AV.osl 4 1 0 7, Zi (↑(7) : Int), Zi 0]) ([some ⟨6, 1, true, Rep.lst [Bas.cells b]⟩, some ⟨32, 1, true, Rep.lst [u8c root]⟩, some ⟨4, 1, true, Rep.lst [[Zi z, Zi sa, Zi sb, Zi r]]⟩, some ⟨4, 1, true, Rep.lst [[Zi 3, Zi 0, AV.nsl, AV.nsl]]⟩, some ⟨1, 7, true, Rep.lst [[Zi (Grp.p (Bas.gr b))], [Zi (Grp.q (Bas.gr b))], [Zi (Grp.g (Bas.gr b))], [Zi (Bas.g1 b)], [Zi (Bas.g2 b)], [Zi (Bas.h b)], [Zi a]]⟩, some ⟨4, 0, true, Rep.lst []⟩]) (fun x6 => (.br (decide ((↑x6.1 : Int) < (↑(7) : Int))) (.req ((0 : Int) ≤ (↑x6.1 : Int) ∧ (↑x6.1 : Int) < (↑(7) : Int)) (.dc (true) 248 ([Zi (crtL b a (Int.toNat (↑x6.1 : Int) + 0))]) (It.av (It.int (crtL b a (Int.toNat (↑x6.1 : Int) + 0)))) (.req ((x6.1 + 1) * 64 ≤ 140737488355328) (.again (Again 0 (fun (x : { x : Nat // x ≤ 7 }) => mkSt [4, 6, 7, 10, 49, 50, 51] [AV.own 0 6 0 0 6, AV.own 1 32 0 0 32, AV.own 2 4 0 0 4, AV.own 3 4 0 0 4, AV.osl 4 1 0 7, Zi (↑(7) : Int), Zi (↑(x.1) : Int)] [some ⟨6, 1, true, Rep.lst [Bas.cells b]⟩, some ⟨32, 1, true, Rep.lst [u8c root]⟩, some ⟨4, 1, true, Rep.lst [[Zi z, Zi sa, Zi sb, Zi r]]⟩, some ⟨4, 1, true, Rep.lst [[Zi 3, Zi 0, AV.nsl, AV.osl 5 4 0 (x.1)]]⟩, some ⟨1, 7, true, Rep.fn fun (i x : Nat) => Zi (crtL b a i)⟩, some ⟨4, x.1, true, Rep.row fun (i : Nat) => It.cells (It.int (crtL b a i))⟩]) (fun (x : { x : Nat // x ≤ 7 }) => 7 - x.1) x6) ([4, 6, 7, 10, 49, 50, 51]) ([0, 1, 2, 3, 4, 78]) ([AV.own 0 6 0 0 6, AV.own 1 32 0 0 32, AV.own 2 4 0 0 4, AV.own 3 4 0 0 4, AV.osl 4 1 0 7, Zi (↑(7) : Int), Zi (IntKind.wrap IntKind.i64 ((↑x6.1 : Int) + 1))]) ([some ⟨6, 1, true, Rep.lst [Bas.cells b]⟩, some ⟨32, 1, true, Rep.lst [u8c root]⟩, some ⟨4, 1, true, Rep.lst [[Zi z, Zi sa, Zi sb, Zi r]]⟩, some ⟨4, 1, true, Rep.lst [[Zi 3, Zi 0, AV.nsl, AV.osl 5 4 0 (x6.1 + 1)]]⟩, some ⟨1, 7, true, Rep.fn fun (i j : Nat) => Zi (crtL b a i)⟩, some ⟨4, x6.1 + 1, true, Rep.cat x6.1 (Rep.row fun (i : Nat) => [Zi (It.kind (It.int (crtL b a i))), Zi (It.num (It.int (crtL b a i))), AV.isl 1 0 fun (i_1 x : Nat) => Zb (It.fb (It.int (crtL b a i)) i_1), AV.isl 4 0 (It.row (It.int (crtL b a i)))]) (Rep.lst [[Zi (It.kind (It.int (crtL b a (Int.toNat (↑x6.1 : Int) + 0)))), Zi (It.num (It.int (crtL b a (Int.toNat (↑x6.1 : Int) + 0)))), AV.isl 1 0 fun (i x : Nat) => Zb (It.fb (It.int (crtL b a (Int.toNat (↑x6.1 : Int) + 0))) i), AV.isl 4 0 (It.row (It.int (crtL b a (Int.toNat (↑x6.1 : Int) + 0))))]])⟩]))))) (.dc (true) 248 ([Zi z]) (It.av (It.int z)) (.dc (true) 248 ([Zi sa]) (It.av (It.int sa)) (.dc (true) 248 ([Zi sb]) (It.av (It.int sb)) (.req ((x6.1 + 4) * 64 ≤ 140737488355328) (.dc (true) 136 ([AV.agg [Zi 3, Zi 0, AV.nsl, AV.isl 4 (x6.1 + 4) fun (r k : Nat) => mixA (Nat.blt (r + 0) x6.1) (atL [Zi (It.kind (It.int (crtL b a (r + 0)))), Zi (It.num (It.int (crtL b a (r + 0)))), AV.isl 1 0 fun (i x : Nat) => Zb (It.fb (It.int (crtL b a (r + 0))) i), AV.isl 4 0 (It.row (It.int (crtL b a (r + 0))))] k) (atL (List.getD [[Zi 2, Zi 0, AV.isl 1 32 fun (r x : Nat) => Zb (intOfAV (atL (u8c root) (0 + (0 + r)))), AV.nsl], [Zi (It.kind (It.int z)), Zi (It.num (It.int z)), AV.isl 1 0 fun (i x : Nat) => Zb (It.fb (It.int z) i), AV.isl 4 0 (It.row (It.int z))], [Zi (It.kind (It.int sa)), Zi (It.num (It.int sa)), AV.isl 1 0 fun (i x : Nat) => Zb (It.fb (It.int sa) i), AV.isl 4 0 (It.row (It.int sa))], [Zi (It.kind (It.int sb)), Zi (It.num (It.int sb)), AV.isl 1 0 fun (i x : Nat) => Zb (It.fb (It.int sb) i), AV.isl 4 0 (It.row (It.int sb))]] (r + 0 - x6.1) []) k)]]) (AV.tup [il IntKind.u8 (It.enc (lsI (crtJ b a root z sa sb))), Zi 0]) (.ff (.sc (true) 149 ([AV.str { data := #[(115 : UInt8), (112 : UInt8), (101 : UInt8), (99 : UInt8), (105 : UInt8), (101 : UInt8), (47 : UInt8), (99 : UInt8), (111 : UInt8), (105 : UInt8), (110 : UInt8)] }, AV.isl 1 132 fun (i x : Nat) => Zb (List.getD (It.enc (lsI (crtJ b a root z sa sb))) i (0 : Int))]) (AV.tup [AV.agg (u8c (tagF (String.toUTF8 "specie/coin") (List.length (It.enc (crtI b a root z sa sb))) fun (k : Nat) => List.getD (It.enc (crtI b a root z sa sb)) k (0 : Int))), Zi 0]) (.ff (.sc (true) 150 ([AV.agg (u8c (tagF (String.toUTF8 "specie/coin") 132 fun (k : Nat) => List.getD (It.enc (crtI b a root z sa sb)) k (0 : Int))), Zi (Bas.gr b).2]) (AV.tup [Zi (numF (tagI (String.toUTF8 "specie/coin") (crtI b a root z sa sb)) (Grp.q (Bas.gr b)) 16), Zi 0]) (.out (AV.tup [Zi (numF (tagI (String.toUTF8 "specie/coin") (crtI b a root z sa sb)) (Bas.gr b).2 16), Zi 0]) [] (crtV b a root z sa sb) [])))))))))))))))))
    (by kernel_rfl) ?_
  refine k_sc ((bvalid_c b) (by assumption)) ?_
  refine k_br (fun h1 => ?_) (fun h1 => ?_)
  · have g1 := (cnd_not_t cnd_id_f) h1
    exact k_out (by exact Ent.of_eq (crt_1 g1))
  · have g1 := (cnd_not_f cnd_id_t) h1
    refine k_sc (hE) ?_
    refine k_br (fun h4 => ?_) (fun h4 => ?_)
    · have g4 := (cnd_not_t (cnd_and_f cnd_id_f cnd_id_f)) h4
      exact k_out (by exact Ent.of_eq (crt_2 g1 g4))
    · have g4 := (cnd_not_f (cnd_and_t cnd_id_t cnd_id_t)) h4
      refine k_loop (fun _ hs => hs.le (⟨.refl _, .refl _, .refl _, .refl _, .refl _, .refl _, .refl _, trivial⟩) (⟨.refl _, .refl _, .refl _, by exact ObEnt.row (by repeat' (first | exact trivial | (first | exact Ent.refl _ | exact inc_ent (by omega) | exact Ent.nil rfl | exact Ent.of_eq (congrArg (AV.osl _ _ _) (by first | omega | (dsimp only; omega))) | exact Ent.of_eq (congrArg (AV.int _) (by first | omega | (dsimp only; omega)))) | refine And.intro ?_ ?_)), crtL_ob, .zero, trivial⟩)) (fun x6 => ?_)
      try (have q6 := x6.2; dsimp only at q6)
      refine k_br (fun h7 => ?_) (fun h7 => ?_)
      · have g7 := cnd_dec_t h7
        refine k_req (by omega) ?_
        refine k_dc (numI_c (crtL b a (Int.toNat (↑x6.1 : Int) + 0))) ?_
        refine k_req (by omega) ?_
        exact k_again (⟨x6.1 + 1, by omega⟩) (fun _ hs => hs.le (⟨.refl _, .refl _, .refl _, .refl _, .refl _, .refl _, inc_ent (by omega), trivial⟩) (⟨.refl _, .refl _, .refl _, .refl _, .refl _, .pushRow rfl, trivial⟩)) (by dsimp only; omega)
      · have g7 := cnd_dec_f h7
        refine k_dc (numI_c (z)) ?_
        refine k_dc (numI_c (sa)) ?_
        refine k_dc (numI_c (sb)) ?_
        refine k_req (by omega) ?_
        refine k_dc (he (x6.1 + 4) (fun (r k : Nat) => mixA (Nat.blt (r + 0) x6.1) (atL [Zi (It.kind (It.int (crtL b a (r + 0)))), Zi (It.num (It.int (crtL b a (r + 0)))), AV.isl (1) (0) fun (i x : Nat) => Zb (It.fb (It.int (crtL b a (r + 0))) i), AV.isl (4) (0) (It.row (It.int (crtL b a (r + 0))))] k) (atL (List.getD [[Zi 2, Zi 0, AV.isl (1) (32) fun (r x : Nat) => Zb (intOfAV (atL (u8c root) (0 + (0 + r)))), AV.nsl], [Zi (It.kind (It.int z)), Zi (It.num (It.int z)), AV.isl (1) (0) fun (i x : Nat) => Zb (It.fb (It.int z) i), AV.isl (4) (0) (It.row (It.int z))], [Zi (It.kind (It.int sa)), Zi (It.num (It.int sa)), AV.isl (1) (0) fun (i x : Nat) => Zb (It.fb (It.int sa) i), AV.isl (4) (0) (It.row (It.int sa))], [Zi (It.kind (It.int sb)), Zi (It.num (It.int sb)), AV.isl (1) (0) fun (i x : Nat) => Zb (It.fb (It.int sb) i), AV.isl (4) (0) (It.row (It.int sb))]] (r + 0 - x6.1) []) k)) (by (show _ = 11; omega)) (by exact fun i k hi _ => crtF_ok (by omega) hi)) ?_
        refine k_ff ?_
        refine k_sc (ht) ?_
        refine k_ff ?_
        refine k_sc (hn (by exact (validB_q g1).1) (by exact (validB_q g1).2)) ?_
        exact k_out (by exact Ent.of_eq (crt_3 g1 g4))

end Go.Proofs.YtdaaddkipdmajaaGreatDoor

namespace Go.Proofs.YtdaaddkipdmajaaGreatDoor
open Go Go.Am Go.Sp
set_option maxRecDepth 100000

theorem rcrt_c (b : Bas) (a : Int) (root : Nat → Int) (z sa sb r : Int) (hr : byB root 32) (hq : 0 < b.gr.q) (hq' : b.gr.q < 2305843009213693952) : Pure Tryz.prog gl0 165 [b.av, .int .i64 a, .agg (u8c root), .agg [.int .i64 z, .int .i64 sa, .int .i64 sb, .int .i64 r]] (.int .i64 (crtN b a root z sa sb)) := by
  have he := fun n F hn hF => rencU_c (crtJ b a root z sa sb) n F hn hF (by rw [show (lsI (crtJ b a root z sa sb)).enc.length = 132 from crtI_len b a z sa sb root]; decide)
  have ht := rtagged_c "specie/coin".toUTF8 (by decide) (fun k => (crtI b a root z sa sb).enc.getD k 0) (crtI b a root z sa sb).enc.length (by rw [crtI_len]; decide) (It.enc_by (crtI_okB hr))
  have hn := rnumber_c (tagI "specie/coin".toUTF8 (crtI b a root z sa sb)) b.gr.q hq hq' (tagI_by _ _ _)
  refine pure_sk (own := ow0) Tryz.func165 (by kernel_rfl) mixed (by kernel_rfl)
    (.dc (true) 220 ([AV.agg (Bas.cells b)]) (AV.isl 1 6 fun (i x : Nat) => Zi (crtL b (0 : Int) i)) (.loop ({ x : Nat // x ≤ 6 }) (fun (x : { x : Nat // x ≤ 6 }) => mkSt [1, 4, 6, 7, 9, 10, 11] [Zi a, AV.own 0 6 0 0 6, AV.own 1 32 0 0 32, AV.own 2 4 0 0 4, AV.isl 1 6 fun (i x : Nat) => Zi (crtL b (0 : Int) i), AV.own 3 4 0 0 4, Zi (↑(x.1) : Int)] [some ⟨6, 1, true, Rep.lst [Bas.cells b]⟩, some ⟨32, 1, true, Rep.lst [u8c root]⟩, some ⟨4, 1, true, Rep.lst [[Zi z, Zi sa, Zi sb, Zi r]]⟩, some ⟨4, 1, true, Rep.lst [[Zi 3, Zi 0, AV.nsl, AV.osl 4 4 0 (x.1)]]⟩, some ⟨4, x.1, true, Rep.row fun (i : Nat) => It.cells (It.int (crtL b (0 : Int) i))⟩]) (fun (x : { x : Nat // x ≤ 6 }) => 6 - x.1) (⟨0, Nat.zero_le 6⟩) ([1, 4, 6, 7, 9, 10, 11]) ([0, 8, 16, 64, 1116]) ([Zi a, AV.own 0 6 0 0 6, AV.own 1 32 0 0 32, AV.own 2 4 0 0 4, AV.isl 1 6 fun (i x : Nat) => Zi (crtL b (0 : Int) i), AV.own 3 4 0 0 4, Zi 0]) ([some ⟨6, 1, true, Rep.lst [Bas.cells b]⟩, some ⟨32, 1, true, Rep.lst [u8c root]⟩, some ⟨4, 1, true, Rep.lst [[Zi z, Zi sa, Zi sb, Zi r]]⟩, some ⟨4, 1, true, Rep.lst [[Zi 3, Zi 0, AV.nsl, AV.nsl]]⟩, some ⟨4, 0, true, Rep.lst []⟩]) (fun x1 => (.br (decide ((↑x1.1 : Int) < (↑(6) : Int))) (.req ((0 : Int) ≤ (↑x1.1 : Int) ∧ (↑x1.1 : Int) < (↑(6) : Int)) (.dc (true) 221 ([Zi (crtL b (0 : Int) (Int.toNat (↑x1.1 : Int)))]) (It.av (It.int (crtL b (0 : Int) (Int.toNat (↑x1.1 : Int))))) (.req ((x1.1 + 1) * 64 ≤ 140737488355328) (.again (Again 0 (fun (x : { x : Nat // x ≤ 6 }) => mkSt [1, 4, 6, 7, 9, 10, 11] [Zi a, AV.own 0 6 0 0 6, AV.own 1 32 0 0 32, AV.own 2 4 0 0 4, AV.isl 1 6 fun (i x : Nat) => Zi (crtL b (0 : Int) i), AV.own 3 4 0 0 4, Zi (↑(x.1) : Int)] [some ⟨6, 1, true, Rep.lst [Bas.cells b]⟩, some ⟨32, 1, true, Rep.lst [u8c root]⟩, some ⟨4, 1, true, Rep.lst [[Zi z, Zi sa, Zi sb, Zi r]]⟩, some ⟨4, 1, true, Rep.lst [[Zi 3, Zi 0, AV.nsl, AV.osl 4 4 0 (x.1)]]⟩, some ⟨4, x.1, true, Rep.row fun (i : Nat) => It.cells (It.int (crtL b (0 : Int) i))⟩]) (fun (x : { x : Nat // x ≤ 6 }) => 6 - x.1) x1) ([1, 4, 6, 7, 9, 10, 11]) ([0, 1, 2, 3, 101]) ([Zi a, AV.own 0 6 0 0 6, AV.own 1 32 0 0 32, AV.own 2 4 0 0 4, AV.isl 1 6 fun (i x : Nat) => Zi (crtL b (0 : Int) i), AV.own 3 4 0 0 4, Zi (IntKind.wrap IntKind.i64 ((↑x1.1 : Int) + 1))]) ([some ⟨6, 1, true, Rep.lst [Bas.cells b]⟩, some ⟨32, 1, true, Rep.lst [u8c root]⟩, some ⟨4, 1, true, Rep.lst [[Zi z, Zi sa, Zi sb, Zi r]]⟩, some ⟨4, 1, true, Rep.lst [[Zi 3, Zi 0, AV.nsl, AV.osl 4 4 0 (x1.1 + 1)]]⟩, some ⟨4, x1.1 + 1, true, Rep.cat x1.1 (Rep.row fun (i : Nat) => [Zi (It.kind (It.int (crtL b (0 : Int) i))), Zi (It.num (It.int (crtL b (0 : Int) i))), AV.isl 1 0 fun (i_1 x : Nat) => Zb (It.fb (It.int (crtL b (0 : Int) i)) i_1), AV.isl 4 0 (It.row (It.int (crtL b (0 : Int) i)))]) (Rep.lst [[Zi (It.kind (It.int (crtL b (0 : Int) (Int.toNat (↑x1.1 : Int))))), Zi (It.num (It.int (crtL b (0 : Int) (Int.toNat (↑x1.1 : Int))))), AV.isl 1 0 fun (i x : Nat) => Zb (It.fb (It.int (crtL b (0 : Int) (Int.toNat (↑x1.1 : Int)))) i), AV.isl 4 0 (It.row (It.int (crtL b (0 : Int) (Int.toNat (↑x1.1 : Int)))))]])⟩]))))) (.loop ({ x : Nat // x ≤ 32 }) (fun (x : { x : Nat // x ≤ 32 }) => mkSt [1, 4, 6, 7, 10, 12, 13] [Zi a, AV.own 0 6 0 0 6, AV.own 1 32 0 0 32, AV.own 2 4 0 0 4, AV.own 3 4 0 0 4, AV.own 4 4 0 0 4, Zi (↑(x.1) : Int)] [some ⟨6, 1, true, Rep.lst [Bas.cells b]⟩, some ⟨32, 1, true, Rep.lst [u8c root]⟩, some ⟨4, 1, true, Rep.lst [[Zi z, Zi sa, Zi sb, Zi r]]⟩, some ⟨4, 1, true, Rep.lst [[Zi 3, Zi 0, AV.nsl, AV.osl 5 4 0 x1.1]]⟩, some ⟨4, 1, true, Rep.lst [[Zi 2, Zi 0, AV.osl 6 1 0 (x.1), AV.nsl]]⟩, some ⟨4, x1.1, true, Rep.row fun (i : Nat) => [Zi (It.kind (It.int (crtL b (0 : Int) i))), Zi (It.num (It.int (crtL b (0 : Int) i))), AV.isl 1 0 fun (i_1 x : Nat) => Zb (It.fb (It.int (crtL b (0 : Int) i)) i_1), AV.isl 4 0 (It.row (It.int (crtL b (0 : Int) i)))]⟩, some ⟨1, x.1, true, Rep.fn fun (i x : Nat) => Zb (root i)⟩]) (fun (x : { x : Nat // x ≤ 32 }) => 32 - x.1) (⟨0, Nat.zero_le 32⟩) ([1, 4, 6, 7, 10, 12, 13]) ([0, 1, 2, 3, 45, 4, 331]) ([Zi a, AV.own 0 6 0 0 6, AV.own 1 32 0 0 32, AV.own 2 4 0 0 4, AV.own 3 4 0 0 4, AV.own 4 4 0 0 4, Zi 0]) ([some ⟨6, 1, true, Rep.lst [Bas.cells b]⟩, some ⟨32, 1, true, Rep.lst [u8c root]⟩, some ⟨4, 1, true, Rep.lst [[Zi z, Zi sa, Zi sb, Zi r]]⟩, some ⟨4, 1, true, Rep.lst [[Zi 3, Zi 0, AV.nsl, AV.osl 5 4 0 x1.1]]⟩, some ⟨4, 1, true, Rep.lst [[Zi 2, Zi 0, AV.nsl, AV.nsl]]⟩, some ⟨4, x1.1, true, Rep.row fun (i : Nat) => [Zi (It.kind (It.int (crtL b (0 : Int) i))), Zi (It.num (It.int (crtL b (0 : Int) i))), AV.isl 1 0 fun (i_1 x : Nat) => Zb (It.fb (It.int (crtL b (0 : Int) i)) i_1), AV.isl 4 0 (It.row (It.int (crtL b (0 : Int) i)))]⟩, some ⟨1, 0, true, Rep.lst []⟩]) (fun x7 => (.br (decide ((↑x7.1 : Int) < 32)) (.req ((0 : Int) ≤ (↑x7.1 : Int) ∧ (↑x7.1 : Int) < (↑(32) : Int)) (.req ((x7.1 + 1) * 1 ≤ 140737488355328) (.again (Again 0 (fun (x : { x : Nat // x ≤ 32 }) => mkSt [1, 4, 6, 7, 10, 12, 13] [Zi a, AV.own 0 6 0 0 6, AV.own 1 32 0 0 32, AV.own 2 4 0 0 4, AV.own 3 4 0 0 4, AV.own 4 4 0 0 4, Zi (↑(x.1) : Int)] [some ⟨6, 1, true, Rep.lst [Bas.cells b]⟩, some ⟨32, 1, true, Rep.lst [u8c root]⟩, some ⟨4, 1, true, Rep.lst [[Zi z, Zi sa, Zi sb, Zi r]]⟩, some ⟨4, 1, true, Rep.lst [[Zi 3, Zi 0, AV.nsl, AV.osl 5 4 0 x1.1]]⟩, some ⟨4, 1, true, Rep.lst [[Zi 2, Zi 0, AV.osl 6 1 0 (x.1), AV.nsl]]⟩, some ⟨4, x1.1, true, Rep.row fun (i : Nat) => [Zi (It.kind (It.int (crtL b (0 : Int) i))), Zi (It.num (It.int (crtL b (0 : Int) i))), AV.isl 1 0 fun (i_1 x : Nat) => Zb (It.fb (It.int (crtL b (0 : Int) i)) i_1), AV.isl 4 0 (It.row (It.int (crtL b (0 : Int) i)))]⟩, some ⟨1, x.1, true, Rep.fn fun (i x : Nat) => Zb (root i)⟩]) (fun (x : { x : Nat // x ≤ 32 }) => 32 - x.1) x7) ([1, 4, 6, 7, 10, 12, 13]) ([0, 1, 2, 3, 4, 5, 71]) ([Zi a, AV.own 0 6 0 0 6, AV.own 1 32 0 0 32, AV.own 2 4 0 0 4, AV.own 3 4 0 0 4, AV.own 4 4 0 0 4, Zi (IntKind.wrap IntKind.i64 ((↑x7.1 : Int) + 1))]) ([some ⟨6, 1, true, Rep.lst [Bas.cells b]⟩, some ⟨32, 1, true, Rep.lst [u8c root]⟩, some ⟨4, 1, true, Rep.lst [[Zi z, Zi sa, Zi sb, Zi r]]⟩, some ⟨4, 1, true, Rep.lst [[Zi 3, Zi 0, AV.nsl, AV.osl 5 4 0 x1.1]]⟩, some ⟨4, 1, true, Rep.lst [[Zi 2, Zi 0, AV.osl 6 1 0 (x7.1 + 1), AV.nsl]]⟩, some ⟨4, x1.1, true, Rep.row fun (i : Nat) => [Zi (It.kind (It.int (crtL b (0 : Int) i))), Zi (It.num (It.int (crtL b (0 : Int) i))), AV.isl 1 0 fun (i_1 x : Nat) => Zb (It.fb (It.int (crtL b (0 : Int) i)) i_1), AV.isl 4 0 (It.row (It.int (crtL b (0 : Int) i)))]⟩, some ⟨1, x7.1 + 1, true, Rep.fn fun (i j : Nat) => Zb (bif Nat.blt i x7.1 then root i else intOfAV (atL [Zb (intOfAV (Rep.at (Ob.f (Ob.seen ⟨32, 1, true, Rep.lst [u8c root]⟩)) 0 (0 + Int.toNat (↑(x7.1) : Int))))] j))⟩])))) (.dc (true) 221 ([Zi a]) (It.av (It.int a)) (.dc (true) 221 ([Zi z]) (It.av (It.int z)) (.dc (true) 221 ([Zi sa]) (It.av (It.int sa)) (.dc (true) 221 ([Zi sb]) (It.av (It.int sb)) (.req ((x1.1 + 5) * 64 ≤ 140737488355328) (.dc (true) 124 ([AV.agg [Zi 3, Zi 0, AV.nsl, AV.isl 4 (x1.1 + 5) fun (r k : Nat) => mixA (Nat.blt (r + 0) x1.1) (atL [Zi (It.kind (It.int (crtL b (0 : Int) (r + 0)))), Zi (It.num (It.int (crtL b (0 : Int) (r + 0)))), AV.isl 1 0 fun (i x : Nat) => Zb (It.fb (It.int (crtL b (0 : Int) (r + 0))) i), AV.isl 4 0 (It.row (It.int (crtL b (0 : Int) (r + 0))))] k) (atL (List.getD [[Zi (It.kind (It.int a)), Zi (It.num (It.int a)), AV.isl 1 0 fun (i x : Nat) => Zb (It.fb (It.int a) i), AV.isl 4 0 (It.row (It.int a))], [Zi 2, Zi 0, AV.isl 1 x7.1 fun (r k : Nat) => Zb (root (r + 0)), AV.nsl], [Zi (It.kind (It.int z)), Zi (It.num (It.int z)), AV.isl 1 0 fun (i x : Nat) => Zb (It.fb (It.int z) i), AV.isl 4 0 (It.row (It.int z))], [Zi (It.kind (It.int sa)), Zi (It.num (It.int sa)), AV.isl 1 0 fun (i x : Nat) => Zb (It.fb (It.int sa) i), AV.isl 4 0 (It.row (It.int sa))], [Zi (It.kind (It.int sb)), Zi (It.num (It.int sb)), AV.isl 1 0 fun (i x : Nat) => Zb (It.fb (It.int sb) i), AV.isl 4 0 (It.row (It.int sb))]] (r + 0 - x1.1) []) k)]]) (il IntKind.u8 (It.enc (lsI (crtJ b a root z sa sb)))) (.sc (true) 123 ([AV.str { data := #[(115 : UInt8), (112 : UInt8), (101 : UInt8), (99 : UInt8), (105 : UInt8), (101 : UInt8), (47 : UInt8), (99 : UInt8), (111 : UInt8), (105 : UInt8), (110 : UInt8)] }, AV.isl 1 132 fun (i x : Nat) => Zb (List.getD (It.enc (lsI (crtJ b a root z sa sb))) i (0 : Int))]) (AV.agg (u8c (tagF (String.toUTF8 "specie/coin") (List.length (It.enc (crtI b a root z sa sb))) fun (k : Nat) => List.getD (It.enc (crtI b a root z sa sb)) k (0 : Int)))) (.sc (true) 122 ([AV.agg (u8c (tagF (String.toUTF8 "specie/coin") 132 fun (k : Nat) => List.getD (It.enc (crtI b a root z sa sb)) k (0 : Int))), Zi (Bas.gr b).2]) (Zi (numF (tagI (String.toUTF8 "specie/coin") (crtI b a root z sa sb)) (Grp.q (Bas.gr b)) 16)) (.out (Zi (numF (tagI (String.toUTF8 "specie/coin") (crtI b a root z sa sb)) (Bas.gr b).2 16)) [] (Zi (crtN b a root z sa sb)) []))))))))))))))))
    (by kernel_rfl) ?_
  refine k_dc ((rNumbers_c b)) ?_
  refine k_loop (fun _ hs => hs.le (⟨.refl _, .refl _, .refl _, .refl _, .refl _, .refl _, .refl _, trivial⟩) (by repeat' (first | exact trivial | (first | exact ObEnt.refl _ | exact ObEnt.junk | exact ObEnt.zero | exact ObEnt.push rfl rfl | exact ObEnt.pushRow rfl | exact ObEnt.len (by omega) | exact ObEnt.row (by repeat' (first | exact trivial | (first | exact Ent.refl _ | exact inc_ent (by omega) | exact Ent.nil rfl | exact Ent.of_eq (congrArg (AV.osl _ _ _) (by first | omega | (dsimp only; omega))) | exact Ent.of_eq (congrArg (AV.int _) (by first | omega | (dsimp only; omega)))) | refine And.intro ?_ ?_))) | refine And.intro ?_ ?_))) (fun x1 => ?_)
  try (have q1 := x1.2; dsimp only at q1)
  refine k_br (fun h2 => ?_) (fun h2 => ?_)
  · have g2 := cnd_dec_t h2
    refine k_req (by omega) ?_
    refine k_dc (rnumI_c (crtL b (0 : Int) (Int.toNat (↑x1.1 : Int)))) ?_
    refine k_req (by omega) ?_
    exact k_again (⟨x1.1 + 1, by omega⟩) (fun _ hs => hs.le (⟨.refl _, .refl _, .refl _, .refl _, .refl _, .refl _, inc_ent (by omega), trivial⟩) (⟨.refl _, .refl _, .refl _, .refl _, .pushRow rfl, trivial⟩)) (by dsimp only; omega)
  · have g2 := cnd_dec_f h2
    refine k_loop (fun _ hs => hs.le (⟨.refl _, .refl _, .refl _, .refl _, .refl _, .refl _, .refl _, trivial⟩) (by repeat' (first | exact trivial | (first | exact ObEnt.refl _ | exact ObEnt.junk | exact ObEnt.zero | exact ObEnt.push rfl rfl | exact ObEnt.pushRow rfl | exact ObEnt.len (by omega) | exact ObEnt.row (by repeat' (first | exact trivial | (first | exact Ent.refl _ | exact inc_ent (by omega) | exact Ent.nil rfl | exact Ent.of_eq (congrArg (AV.osl _ _ _) (by first | omega | (dsimp only; omega))) | exact Ent.of_eq (congrArg (AV.int _) (by first | omega | (dsimp only; omega)))) | refine And.intro ?_ ?_))) | refine And.intro ?_ ?_))) (fun x7 => ?_)
    try (have q7 := x7.2; dsimp only at q7)
    refine k_br (fun h8 => ?_) (fun h8 => ?_)
    · have g8 := cnd_dec_t h8
      refine k_req (by omega) ?_
      refine k_req (by omega) ?_
      exact k_again (⟨x7.1 + 1, by omega⟩) (fun _ hs => hs.le (⟨.refl _, .refl _, .refl _, .refl _, .refl _, .refl _, inc_ent (by omega), trivial⟩) (⟨.refl _, .refl _, .refl _, .refl _, .refl _, .refl _, root_push rfl (rootc_at (by omega)), trivial⟩)) (by dsimp only; omega)
    · have g8 := cnd_dec_f h8
      refine k_dc (rnumI_c (a)) ?_
      refine k_dc (rnumI_c (z)) ?_
      refine k_dc (rnumI_c (sa)) ?_
      refine k_dc (rnumI_c (sb)) ?_
      refine k_req (by omega) ?_
      refine k_dc (he (x1.1 + 5) (fun (r k : Nat) => mixA (Nat.blt (r + 0) x1.1) (atL [Zi (It.kind (It.int (crtL b (0 : Int) (r + 0)))), Zi (It.num (It.int (crtL b (0 : Int) (r + 0)))), AV.isl (1) (0) fun (i x : Nat) => Zb (It.fb (It.int (crtL b (0 : Int) (r + 0))) i), AV.isl (4) (0) (It.row (It.int (crtL b (0 : Int) (r + 0))))] k) (atL (List.getD [[Zi (It.kind (It.int a)), Zi (It.num (It.int a)), AV.isl (1) (0) fun (i x : Nat) => Zb (It.fb (It.int a) i), AV.isl (4) (0) (It.row (It.int a))], [Zi 2, Zi 0, AV.isl (1) x7.1 fun (r k : Nat) => Zb (root (r + 0)), AV.nsl], [Zi (It.kind (It.int z)), Zi (It.num (It.int z)), AV.isl (1) (0) fun (i x : Nat) => Zb (It.fb (It.int z) i), AV.isl (4) (0) (It.row (It.int z))], [Zi (It.kind (It.int sa)), Zi (It.num (It.int sa)), AV.isl (1) (0) fun (i x : Nat) => Zb (It.fb (It.int sa) i), AV.isl (4) (0) (It.row (It.int sa))], [Zi (It.kind (It.int sb)), Zi (It.num (It.int sb)), AV.isl (1) (0) fun (i x : Nat) => Zb (It.fb (It.int sb) i), AV.isl (4) (0) (It.row (It.int sb))]] (r + 0 - x1.1) []) k)) (by (show _ = 11; omega)) (by exact fun i k hi _ => rcrtF_ok (by omega) (by omega) hi)) ?_
      refine k_sc (ht) ?_
      refine k_sc (hn) ?_
      exact k_out (Ent.of_eq rfl)

theorem verR_c (b : Bas) (k0 k1 k2 a : Int) (root : Nat → Int) (z sa sb r : Int) (hw : b.gr.W) (hr : byB root 32) :
    Pure Tryz.prog gl0 144 [b.av, .agg [.int .i64 k0, .int .i64 k1, .int .i64 k2], .int .i64 a, .agg (u8c root), .agg [.int .i64 z, .int .i64 sa, .int .i64 sb, .int .i64 r]] (.bool (verR b k0 k1 k2 a root z sa sb r)) := by
  have hv := validR_c b k0 k1 k2 hw
  have hm := messageR_c b a hw
  have hs := scalR_c b r
  have hc := crt_c b a root z sa sb r hw hr
  have K : (keyB b k0 k1 k2 = true ∧ msgB b.gr a = true) ∧ 0 ≤ r ∧ r < b.gr.q → crtE b a z sa sb = 0 ∧ ¬ crtC b a root z sa sb = 0 → SigOk b k0 a z sa sb r (crtC b a root z sa sb) := fun u v => sig_okC root u.1.1 u.1.2 v.1 u.2
  refine pure_sk (own := ow0) Tryz.func144 (by kernel_rfl) mixed (by kernel_rfl)
    (let y0 : AV := (AV.bool (verR b k0 k1 k2 a root z sa sb r)); (.sc (true) 206 ([AV.agg (Bas.cells b), AV.agg [Zi k0, Zi k1, Zi k2]]) (AV.bool (keyB b k0 k1 k2)) (.sc ((!keyB b k0 k1 k2) == false) 207 ([AV.agg (Bas.cells b), Zi a]) (AV.bool (msgB (Bas.gr b) a)) (.sc ((!keyB b k0 k1 k2 || !msgB b.1 a) == false) 208 ([AV.agg (Bas.cells b), Zi r]) (AV.bool (decide (r ≥ 0) && decide (r < Grp.q (Bas.gr b)))) (.br (!keyB b k0 k1 k2 || !msgB b.1 a || !(decide (r ≥ 0) && decide (r < (Bas.gr b).2))) (.out (AV.bool false) [] y0 []) (.sc (true) 209 ([AV.agg (Bas.cells b), Zi a, AV.agg (u8c root), AV.agg [Zi z, Zi sa, Zi sb, Zi r]]) (crtV b a root z sa sb) (.br (crtE b a z sa sb != 0 || crtC b a root z sa sb == 0) (.out (AV.bool false) [] y0 []) (.sc (true) 210 ([AV.agg (Bas.cells b), Zi (Bas.gr b).3, Zi r]) (Zi ((Bas.gr b).3 ^ Int.toNat r % Grp.p (Bas.gr b))) (.sc (true) 211 ([AV.agg (Bas.cells b), Zi k0, Zi (crtC b a root z sa sb), Zi sa, Zi 1]) (Zi (k0 ^ Int.toNat (crtC b a root z sa sb) % Grp.p (Bas.gr b) * sa % Grp.p (Bas.gr b))) (.sc (((Bas.gr b).3 ^ Int.toNat r % (Bas.gr b).1 == k0 ^ Int.toNat (crtC b a root z sa sb) % (Bas.gr b).1 * sa % (Bas.gr b).1) == true) 210 ([AV.agg (Bas.cells b), Zi a, Zi r]) (Zi (a ^ Int.toNat r % Grp.p (Bas.gr b))) (.sc (((Bas.gr b).3 ^ Int.toNat r % (Bas.gr b).1 == k0 ^ Int.toNat (crtC b a root z sa sb) % (Bas.gr b).1 * sa % (Bas.gr b).1) == true) 211 ([AV.agg (Bas.cells b), Zi z, Zi (crtC b a root z sa sb), Zi sb, Zi 1]) (Zi (z ^ Int.toNat (crtC b a root z sa sb) % Grp.p (Bas.gr b) * sb % Grp.p (Bas.gr b))) (.out (AV.bool ((Bas.gr b).3 ^ Int.toNat r % (Bas.gr b).1 == k0 ^ Int.toNat (crtC b a root z sa sb) % (Bas.gr b).1 * sa % (Bas.gr b).1 && a ^ Int.toNat r % (Bas.gr b).1 == z ^ Int.toNat (crtC b a root z sa sb) % (Bas.gr b).1 * sb % (Bas.gr b).1)) [] y0 []))))))))))))
    (by kernel_rfl) ?_
  refine k_sc (hv) ?_
  refine k_scg (fun h1 => hm) ?_
  refine k_scg (fun h2 => hs) ?_
  refine k_br (fun h3 => ?_) (fun h3 => ?_)
  · have g3 := (cnd_or_t (cnd_or_t (cnd_not_t cnd_id_f) (cnd_not_t cnd_id_f)) (cnd_not_t (cnd_and_f cnd_dec_f cnd_dec_f))) h3
    exact k_out (Ent.of_eq (congrArg _ (by rcases g3 with (h | h) | h; (· exact (ver_0 (.inl h)).symm); (· exact (ver_0 (.inr (.inl h))).symm); (· exact (ver_0 (.inr (.inr (.inr (sca_0 h))))).symm))))
  · have g3 := (cnd_or_f (cnd_or_f (cnd_not_f cnd_id_t) (cnd_not_f cnd_id_t)) (cnd_not_f (cnd_and_t cnd_dec_t cnd_dec_t))) h3
    refine k_sc (hc) ?_
    refine k_br (fun h6 => ?_) (fun h6 => ?_)
    · have g6 := (cnd_or_t cnd_bne_t cnd_beq_t) h6
      exact k_out (Ent.of_eq (congrArg _ (ver_c g3.1.1 g3.1.2 g6).symm))
    · have g6 := (cnd_or_f cnd_bne_f cnd_beq_f) h6
      refine k_sc ((powR_c b) ((Bas.gr b).3) (r) (by cases K g3 g6; assumption) (by cases K g3 g6; assumption) (by cases K g3 g6; assumption)) ?_
      refine k_sc ((prodR_c b) (k0) (crtC b a root z sa sb) (sa) (by cases K g3 g6; assumption) (by cases K g3 g6; assumption) (by cases K g3 g6; assumption) (by cases K g3 g6; assumption)) ?_
      refine k_scg (fun h10 => (powR_c b) (a) (r) (by cases K g3 g6; assumption) (by cases K g3 g6; assumption) (by cases K g3 g6; assumption)) ?_
      refine k_scg (fun h11 => (prodR_c b) (z) (crtC b a root z sa sb) (sb) (by cases K g3 g6; assumption) (by cases K g3 g6; assumption) (by cases K g3 g6; assumption) (by cases K g3 g6; assumption)) ?_
      exact k_out (Ent.of_eq (congrArg _ (ver_e g3.1.1 g3.1.2 g3.2 g6.1 g6.2).symm))

theorem rverR_c (b : Bas) (k0 k1 k2 a : Int) (root : Nat → Int) (z sa sb r : Int) (hw : b.gr.W) (hr : byB root 32) :
    Pure Tryz.prog gl0 80 [b.av, .agg [.int .i64 k0, .int .i64 k1, .int .i64 k2], .int .i64 a, .agg (u8c root), .agg [.int .i64 z, .int .i64 sa, .int .i64 sb, .int .i64 r]] (.bool (verR b k0 k1 k2 a root z sa sb r)) := by
  have hv := rkey_c b k0 k1 k2 hw
  have hm := rmsg_c b.gr a
  have he := relems_c b.gr z sa sb r
  have hs := rscalR_c b.gr r
  have hc := rcrt_c b a root z sa sb r hr
  have K : ((keyB b k0 k1 k2 = true ∧ msgB b.gr a = true) ∧ elsB b.gr z sa sb = true) ∧ 0 ≤ r ∧ r < b.gr.q → SigOk b k0 a z sa sb r (crtN b a root z sa sb) := fun u => sig_ok root u.1.1.1 u.1.1.2 u.1.2 u.2
  refine pure_sk (own := ow0) Tryz.func80 (by kernel_rfl) mixed (by kernel_rfl)
    (let y0 : List AV := [Zi (Bas.gr b).1, Zi (Bas.gr b).2, Zi (Bas.gr b).3]; let y1 : AV := (AV.bool (verR b k0 k1 k2 a root z sa sb r)); (.sc (true) 158 ([AV.agg (Bas.cells b), AV.agg [Zi k0, Zi k1, Zi k2]]) (AV.bool (keyB b k0 k1 k2)) (.sc ((!keyB b k0 k1 k2) == false) 162 ([AV.agg y0, Zi a]) (AV.bool (msgB (Bas.gr b) a)) (.sc ((!keyB b k0 k1 k2 || !msgB b.1 a) == false) 163 ([AV.agg y0, AV.agg [Zi z, Zi sa, Zi sb, Zi r]]) (AV.bool (elsB (Bas.gr b) z sa sb)) (.sc ((!keyB b k0 k1 k2 || !msgB b.1 a || !elsB b.1 z sa sb) == false) 164 ([AV.agg y0, Zi r]) (AV.bool (decide (r ≥ 0) && decide (r < Grp.q (Bas.gr b)))) (.br (!keyB b k0 k1 k2 || !msgB b.1 a || !elsB b.1 z sa sb || !(decide (r ≥ 0) && decide (r < (Bas.gr b).2))) (.out (AV.bool false) [] y1 []) (.sc (true) 165 ([AV.agg (Bas.cells b), Zi a, AV.agg (u8c root), AV.agg [Zi z, Zi sa, Zi sb, Zi r]]) (Zi (crtN b a root z sa sb)) (.sc ((crtN b a root z sa sb != 0) == true) 166 ([AV.agg y0, Zi (Bas.gr b).3, Zi r]) (Zi ((Bas.gr b).3 ^ Int.toNat r % Grp.p (Bas.gr b))) (.sc ((crtN b a root z sa sb != 0) == true) 166 ([AV.agg y0, Zi k0, Zi (crtN b a root z sa sb)]) (Zi (k0 ^ Int.toNat (crtN b a root z sa sb) % Grp.p (Bas.gr b))) (.sc ((crtN b a root z sa sb != 0) == true) 167 ([AV.agg y0, Zi (k0 ^ Int.toNat (crtN b a root z sa sb) % (Bas.gr b).1), Zi sa]) (Zi (k0 ^ Int.toNat (crtN b a root z sa sb) % (Bas.gr b).1 * sa % Grp.p (Bas.gr b))) (.sc ((crtN b a root z sa sb != 0 && (Bas.gr b).3 ^ Int.toNat r % (Bas.gr b).1 == k0 ^ Int.toNat (crtN b a root z sa sb) % (Bas.gr b).1 * sa % (Bas.gr b).1) == true) 166 ([AV.agg y0, Zi a, Zi r]) (Zi (a ^ Int.toNat r % Grp.p (Bas.gr b))) (.sc ((crtN b a root z sa sb != 0 && (Bas.gr b).3 ^ Int.toNat r % (Bas.gr b).1 == k0 ^ Int.toNat (crtN b a root z sa sb) % (Bas.gr b).1 * sa % (Bas.gr b).1) == true) 166 ([AV.agg y0, Zi z, Zi (crtN b a root z sa sb)]) (Zi (z ^ Int.toNat (crtN b a root z sa sb) % Grp.p (Bas.gr b))) (.sc ((crtN b a root z sa sb != 0 && (Bas.gr b).3 ^ Int.toNat r % (Bas.gr b).1 == k0 ^ Int.toNat (crtN b a root z sa sb) % (Bas.gr b).1 * sa % (Bas.gr b).1) == true) 167 ([AV.agg y0, Zi (z ^ Int.toNat (crtN b a root z sa sb) % (Bas.gr b).1), Zi sb]) (Zi (z ^ Int.toNat (crtN b a root z sa sb) % (Bas.gr b).1 * sb % Grp.p (Bas.gr b))) (.out (AV.bool (crtN b a root z sa sb != 0 && (Bas.gr b).3 ^ Int.toNat r % (Bas.gr b).1 == k0 ^ Int.toNat (crtN b a root z sa sb) % (Bas.gr b).1 * sa % (Bas.gr b).1 && a ^ Int.toNat r % (Bas.gr b).1 == z ^ Int.toNat (crtN b a root z sa sb) % (Bas.gr b).1 * sb % (Bas.gr b).1)) [] y1 []))))))))))))))
    (by kernel_rfl) ?_
  refine k_sc (hv) ?_
  refine k_scg (fun h1 => hm ((validB_ok (key_1 (by simpa using h1)).1))) ?_
  refine k_scg (fun h2 => he ((validB_ok (key_1 (by simp at h2; exact h2.1)).1))) ?_
  refine k_scg (fun h3 => hs) ?_
  refine k_br (fun h4 => ?_) (fun h4 => ?_)
  · have g4 := (cnd_or_t (cnd_or_t (cnd_or_t (cnd_not_t cnd_id_f) (cnd_not_t cnd_id_f)) (cnd_not_t cnd_id_f)) (cnd_not_t (cnd_and_f cnd_dec_f cnd_dec_f))) h4
    exact k_out (Ent.of_eq (congrArg _ (by rcases g4 with ((h | h) | h) | h; (· exact (ver_0 (.inl h)).symm); (· exact (ver_0 (.inr (.inl h))).symm); (· exact (ver_0 (.inr (.inr (.inl h)))).symm); (· exact (ver_0 (.inr (.inr (.inr (sca_0 h))))).symm))))
  · have g4 := (cnd_or_f (cnd_or_f (cnd_or_f (cnd_not_f cnd_id_t) (cnd_not_f cnd_id_t)) (cnd_not_f cnd_id_t)) (cnd_not_f (cnd_and_t cnd_dec_t cnd_dec_t))) h4
    refine k_sc (hc (by (have := (K g4).ok; exact (validB_q (key_1 g4.1.1.1).1).1)) (by exact (validB_q (key_1 g4.1.1.1).1).2)) ?_
    refine k_scg (fun h7 => (rpowR_c (Bas.gr b)) ((Bas.gr b).3) (r) (by (cases K g4; assumption)) (by (cases K g4; assumption)) (by (cases K g4; assumption))) ?_
    refine k_scg (fun h8 => (rpowR_c (Bas.gr b)) (k0) (crtN b a root z sa sb) (by (cases K g4; assumption)) (by (cases K g4; assumption)) (by (cases K g4; assumption))) ?_
    refine k_scg (fun h9 => (rmulR_c (Bas.gr b)) (k0 ^ Int.toNat (crtN b a root z sa sb) % (Bas.gr b).1) (sa) (by (cases K g4; assumption)) (by exact mod_bnd (K g4).ok _) (by (cases K g4; assumption))) ?_
    refine k_scg (fun h10 => (rpowR_c (Bas.gr b)) (a) (r) (by (cases K g4; assumption)) (by (cases K g4; assumption)) (by (cases K g4; assumption))) ?_
    refine k_scg (fun h11 => (rpowR_c (Bas.gr b)) (z) (crtN b a root z sa sb) (by (cases K g4; assumption)) (by (cases K g4; assumption)) (by (cases K g4; assumption))) ?_
    refine k_scg (fun h12 => (rmulR_c (Bas.gr b)) (z ^ Int.toNat (crtN b a root z sa sb) % (Bas.gr b).1) (sb) (by (cases K g4; assumption)) (by exact mod_bnd (K g4).ok _) (by (cases K g4; assumption))) ?_
    exact k_out (Ent.of_eq (congrArg _ ((Bool.and_assoc _ _ _).trans (ver_r g4.1.1.1 g4.1.1.2 g4.1.2 g4.2).symm)))

end Go.Proofs.YtdaaddkipdmajaaGreatDoor

namespace Go.Sp
open Go Go.Am
def coinV (b : Bas) (r : Rcd) (c : Coin) : Bool :=
  rcvB b r && c.bank == r.bank && c.epoch == r.epoch && c.denom == r.denom && c.depth == r.depth && verR b r.h r.h1 r.h2 c.a c.root c.z c.sa c.sb c.r
def lvB (n : Int) : Bool := decide (firstI (fun i => n == (2 ^ i : Nat)) 6 0 ≥ 0)
theorem lvB_f : ∀ d : Fin 6, lvB ((2 ^ d.1 : Nat) : Int) = true := by decide +kernel
theorem lvB_d {d : Nat} (h : d ≤ 5) : lvB ((2 ^ d : Nat) : Int) = true := lvB_f ⟨d, by omega⟩
theorem hsl_out {os : List (Option Ob)} {n m : Nat} {F : Nat → Nat → Int} (hn : m = n) : Ent os (.isl 32 m fun r k => atL (u8c (F r)) k) (hsl n F) := by
  subst hn
  exact Ent.isl fun i j _ hj => atL_map_range (es := 32) (g := fun j => AV.int .u8 (F i j)) hj
theorem tup2_out {os : List (Option Ob)} {a b : AV} {v : AV} (h : Ent os a b) : Ent os (.tup [a, v]) (.tup [b, v]) := Ent.tup ⟨h, Ent.refl _, trivial⟩
end Go.Sp

namespace Go.Proofs.YtdaaddkipdmajaaGreatDoor
open Go Go.Am Go.Sp
set_option maxRecDepth 100000

theorem cval_c (b : Bas) (r : Rcd) (c : Coin) (hw : b.gr.W) (hr : byB c.root 32) : Pure Tryz.prog gl0 67 [b.av, r.av, c.av] (.bool (coinV b r c)) := by
  have hv := recV_c b r hw
  have hs := verR_c b r.h r.h1 r.h2 c.a c.root c.z c.sa c.sb c.r hw hr
  refine pure_sk (own := ow0) Tryz.func67 (by kernel_rfl) mixed (by kernel_rfl)
    (.sc (true) 143 ([AV.agg (Bas.cells b), AV.agg (Rcd.cells r)]) (AV.bool (rcvB b r)) (.sc ((rcvB b r && c.1 == r.1 && c.2 == r.2 && c.3 == r.3 && c.4 == r.5) == true) 144 ([AV.agg (Bas.cells b), AV.agg [Zi r.6, Zi r.7, Zi r.8], Zi c.5, AV.agg (u8c c.6), AV.agg [Zi c.7, Zi c.8, Zi c.9, Zi c.10]]) (AV.bool (verR b (Rcd.h r) (Rcd.h1 r) (Rcd.h2 r) (Coin.a c) (Coin.root c) (Coin.z c) (Coin.sa c) (Coin.sb c) (Coin.r c))) (.out (AV.bool (rcvB b r && c.1 == r.1 && c.2 == r.2 && c.3 == r.3 && c.4 == r.5 && verR b r.6 r.7 r.8 c.5 c.6 c.7 c.8 c.9 c.10)) [] (AV.bool (coinV b r c)) [])))
    (by kernel_rfl) ?_
  refine k_sc (hv) ?_
  refine k_scg (fun h1 => hs) ?_
  exact k_out (Ent.refl _)

theorem rcval_c (b : Bas) (r : Rcd) (c : Coin) (hw : b.gr.W) (hr : byB c.root 32) : Pure Tryz.prog gl0 20 [b.av, r.av, c.av] (.bool (coinV b r c)) := by
  have hv := rrecV_c b r hw
  have hs := rverR_c b r.h r.h1 r.h2 c.a c.root c.z c.sa c.sb c.r hw hr
  refine pure_sk (own := ow0) Tryz.func20 (by kernel_rfl) mixed (by kernel_rfl)
    (.sc (true) 79 ([AV.agg (Bas.cells b), AV.agg (Rcd.cells r)]) (AV.bool (rcvB b r)) (.sc ((rcvB b r && c.1 == r.1 && c.2 == r.2 && c.3 == r.3 && c.4 == r.5) == true) 80 ([AV.agg (Bas.cells b), AV.agg [Zi r.6, Zi r.7, Zi r.8], Zi c.5, AV.agg (u8c c.6), AV.agg [Zi c.7, Zi c.8, Zi c.9, Zi c.10]]) (AV.bool (verR b (Rcd.h r) (Rcd.h1 r) (Rcd.h2 r) (Coin.a c) (Coin.root c) (Coin.z c) (Coin.sa c) (Coin.sb c) (Coin.r c))) (.out (AV.bool (rcvB b r && c.1 == r.1 && c.2 == r.2 && c.3 == r.3 && c.4 == r.5 && verR b r.6 r.7 r.8 c.5 c.6 c.7 c.8 c.9 c.10)) [] (AV.bool (coinV b r c)) [])))
    (by kernel_rfl) ?_
  refine k_sc (hv) ?_
  refine k_scg (fun h1 => hs) ?_
  exact k_out (Ent.refl _)

end Go.Proofs.YtdaaddkipdmajaaGreatDoor

namespace Go.Proofs.YtdaaddkipdmajaaGreatDoor
open Go Go.Am Go.Sp
set_option maxRecDepth 100000

theorem idxI_w (F : FuncId) (m : Nat) (g : Nat → AV) (f : Nat → Int) (n : Nat) (p : Nat → Bool) (hn : n ≤ 1000) (hc : ∀ i, i < n → Pure Tryz.prog gl0 F [.int .i64 (f i), .ipt m g] (.bool (p i))) : Pure Tryz.prog gl0 240 [.isl 1 n (fun i _ => .int .i64 (f i)), .fn (.func F) [] [.ipt m g]] (.int .i64 (firstI p n 0)) := by
  refine pure_sk (own := ow0) Tryz.func240 (by kernel_rfl) mixed (by kernel_rfl)
    (.loop ({ x : Nat // x ≤ n ∧ (fun (i : Nat) => firstI p n 0 = firstI p (n - i) i) x }) (fun (x : { x : Nat // x ≤ n ∧ (fun (i : Nat) => firstI p n 0 = firstI p (n - i) i) x }) => mkSt [0, 1, 7, 8] [AV.isl 1 n fun (i x : Nat) => Zi (f i), AV.fn (Fn.func F) [] [AV.ipt m g], Zi (↑n : Int), Zi (↑(x.1) : Int)] []) (fun (x : { x : Nat // x ≤ n ∧ (fun (i : Nat) => firstI p n 0 = firstI p (n - i) i) x }) => n - x.1) (⟨0, ⟨Nat.zero_le n, rfl⟩⟩) ([0, 1, 7, 8]) ([]) ([AV.isl 1 n fun (i x : Nat) => Zi (f i), AV.fn (Fn.func F) [] [AV.ipt m g], Zi (↑n : Int), Zi 0]) ([]) (fun x0 => (.br (decide ((↑x0.1 : Int) < (↑n : Int))) (.req ((0 : Int) ≤ (↑x0.1 : Int) ∧ (↑x0.1 : Int) < (↑n : Int)) (.sc (true) F ([Zi (f (Int.toNat (↑x0.1 : Int))), AV.ipt m g]) (AV.bool (p (Int.toNat (↑x0.1 : Int)))) (.br (p (Int.toNat (↑x0.1 : Int))) (.out (Zi (↑x0.1 : Int)) [] (Zi (firstI p n 0)) []) (.again (Again 0 (fun (x : { x : Nat // x ≤ n ∧ (fun (i : Nat) => firstI p n 0 = firstI p (n - i) i) x }) => mkSt [0, 1, 7, 8] [AV.isl 1 n fun (i x : Nat) => Zi (f i), AV.fn (Fn.func F) [] [AV.ipt m g], Zi (↑n : Int), Zi (↑(x.1) : Int)] []) (fun (x : { x : Nat // x ≤ n ∧ (fun (i : Nat) => firstI p n 0 = firstI p (n - i) i) x }) => n - x.1) x0) ([0, 1, 7, 8]) ([]) ([AV.isl 1 n fun (i x : Nat) => Zi (f i), AV.fn (Fn.func F) [] [AV.ipt m g], Zi (↑n : Int), Zi (IntKind.wrap IntKind.i64 ((↑x0.1 : Int) + 1))]) ([]))))) (.out (Zi (-1)) [] (Zi (firstI p n 0)) []))))
    (by kernel_rfl) ?_
  refine k_loop (fun _ hs => hs.le (⟨.refl _, .refl _, .refl _, .refl _, trivial⟩) (trivial)) (fun x0 => ?_)
  try (have q0 := x0.2; dsimp only at q0)
  refine k_br (fun h1 => ?_) (fun h1 => ?_)
  · have g1 := cnd_dec_t h1
    refine k_req (by omega) ?_
    refine k_sc (hc (Int.toNat (↑x0.1 : Int)) (by omega)) ?_
    refine k_br (fun h4 => ?_) (fun h4 => ?_)
    · have g4 := cnd_id_t h4
      try simp only [Int.toNat_natCast] at g4
      exact k_out (Ent.of_eq (congrArg _ (first_hit x0.2.2 (by omega) h4)))
    · have g4 := cnd_id_f h4
      try simp only [Int.toNat_natCast] at g4
      exact k_again (⟨x0.1 + 1, by omega, first_next x0.2.2 (by omega) h4⟩) (fun _ hs => hs.le (⟨.refl _, .refl _, .refl _, inc_ent (by omega), trivial⟩) (trivial)) (by dsimp only; omega)
  · have g1 := cnd_dec_f h1
    exact k_out (Ent.of_eq (congrArg _ (first_miss x0.2.2 (by omega))))

theorem conI_w (F : FuncId) (m : Nat) (g : Nat → AV) (f : Nat → Int) (n : Nat) (p : Nat → Bool) (hn : n ≤ 1000) (hc : ∀ i, i < n → Pure Tryz.prog gl0 F [.int .i64 (f i), .ipt m g] (.bool (p i))) : Pure Tryz.prog gl0 197 [.isl 1 n (fun i _ => .int .i64 (f i)), .fn (.func F) [] [.ipt m g]] (.bool (decide (firstI p n 0 ≥ 0))) := by
  have c1 := idxI_w F m g f n p hn hc
  refine pure_sk (own := ow0) Tryz.func197 (by kernel_rfl) mixed (by kernel_rfl)
    (let y0 : AV := (AV.bool (decide (firstI p n 0 ≥ 0))); (.sc (true) 240 ([AV.isl 1 n fun (i x : Nat) => Zi (f i), AV.fn (Fn.func F) [] [AV.ipt m g]]) (Zi (firstI p n 0)) (.out y0 [] y0 [])))
    (by kernel_rfl) ?_
  refine k_sc (c1) ?_
  exact k_out (Ent.refl _)

theorem leaves1_c (n : Int) (i : Nat) (hi : i < 6) : Pure Tryz.prog gl0 198 [.int .i64 i, .ipt 1 (atL [.int .i64 n])] (.bool (n == (2 ^ i : Nat))) := by
  have hs := shw (x := i) (by omega)
  refine pure_sk (own := ow0) Tryz.func198 (by kernel_rfl) mixed (by kernel_rfl)
    (.req ((0 : Int) ≤ (↑i : Int)) (.out (AV.bool (n == IntKind.wrap IntKind.i64 ((1 : Int) * 2 ^ min (Int.toNat (↑i : Int)) 64))) [] (AV.bool (n == (↑(2 ^ i) : Int))) []))
    (by kernel_rfl) ?_
  refine k_req (by omega) ?_
  exact k_out (Ent.of_eq (by simp_all))

end Go.Proofs.YtdaaddkipdmajaaGreatDoor

namespace Go.Proofs.YtdaaddkipdmajaaGreatDoor
open Go Go.Am Go.Sp
set_option maxRecDepth 100000

theorem leaves_c0 (n : Int) : Pure Tryz.prog gl0 197 [.isl 1 6 (fun r k => atL (List.getD [[.int .i64 0], [.int .i64 1], [.int .i64 2], [.int .i64 3], [.int .i64 4], [.int .i64 5]] r []) k), .fn (.func 198) [] [.ipt 1 (atL [.int .i64 n])]] (.bool (lvB n)) :=
  (conI_w 198 1 (atL [.int .i64 n]) (fun i => (i : Int)) 6 (fun i => n == (2 ^ i : Nat)) (by decide) (fun i hi => leaves1_c n i hi)).via
    ⟨Ent.isl fun i j hi hj => by obtain rfl : j = 0 := Nat.lt_one_iff.1 hj
                                 match i, hi with | 0, _ | 1, _ | 2, _ | 3, _ | 4, _ | 5, _ => rfl, Ent.refl _, trivial⟩

theorem leaves_c (n : Int) : Pure Tryz.prog gl0 133 [.int .i64 n] (.bool (lvB n)) := by
  have h := leaves_c0 n
  refine pure_sk (own := ow0) Tryz.func133 (by kernel_rfl) mixed (by kernel_rfl)
    (.sc (true) 197 ([AV.isl 1 6 fun (r k : Nat) => atL (List.getD [[Zi 0], [Zi 1], [Zi 2], [Zi 3], [Zi 4], [Zi 5]] (r + 0) []) k, AV.fn (Fn.func 198) [] [AV.ipt 1 fun (k : Nat) => atL [Zi n] k]]) (AV.bool (lvB n)) (.out (AV.bool (lvB n)) [] (AV.bool (lvB n)) []))
    (by kernel_rfl) ?_
  refine k_sc (h) ?_
  exact k_out (Ent.refl _)

theorem encN_c (x : Int) : Pure Tryz.prog gl0 136 [.agg [.int .i64 1, .int .i64 x, .nsl, .nsl]] (.tup [il .u8 (It.int x).enc, .int .i64 0]) :=
  (encode_c (.int x) rfl (by rw [int_len]; decide)).via ⟨Ent.agg ⟨Ent.refl _, Ent.refl _, Ent.nsl, Ent.nsl, trivial⟩, trivial⟩

theorem rencN_c (x : Int) : Pure Tryz.prog gl0 124 [.agg [.int .i64 1, .int .i64 x, .nsl, .nsl]] (il .u8 (It.int x).enc) :=
  (renc_c (.int x) (by rw [int_len]; decide)).via ⟨Ent.agg ⟨Ent.refl _, Ent.refl _, Ent.nsl, Ent.nsl, trivial⟩, trivial⟩

theorem chash_n (b : Bas) (N : Nat) (hN : N ≤ 32) (hl : lvB N = true) (f : Nat → Int) (hw : b.gr.W) (hv : validB b = true) (hf : ∀ i, i < N → elemB b.gr (f i) = true) : Pure Tryz.prog gl0 57 [b.av, .isl 1 N fun i _ => .int .i64 (f i)] (.tup [hsl N fun i => leafF (f i), .int .i64 0]) := by
  have ht := fun x : Int => tleaf_c (It.int x).enc.length (fun i => (It.int x).enc.getD i 0) (by rw [int_len]; decide) (It.enc_by (x := .int x) trivial)
  refine pure_sk (own := ow0) Tryz.func57 (by kernel_rfl) mixed (by kernel_rfl)
    (let y0 : AV := (AV.tup [hsl N fun (i : Nat) => leafF (f i), Zi 0]); (.sc (true) 52 ([AV.agg (Bas.cells b)]) (AV.bool (validB b)) (.sc ((!validB b) == false) 133 ([Zi (↑N : Int)]) (AV.bool (lvB (↑N : Int))) (.br (!validB b || !lvB (↑N : Int)) (.out (AV.tup [AV.nsl, Zi 1]) [] y0 []) (.loop ({ x : Nat // x ≤ N }) (fun (x : { x : Nat // x ≤ N }) => mkSt [2, 22, 23, 6, 24] [AV.own 0 6 0 0 6, AV.isl 1 N fun (i x : Nat) => Zi (f i), Zi (↑N : Int), AV.osl 1 32 0 (x.1), Zi (↑(x.1) : Int)] [some ⟨6, 1, true, Rep.lst [Bas.cells b]⟩, some ⟨32, x.1, true, Rep.row fun (i : Nat) => u8c (leafF (f i))⟩]) (fun (x : { x : Nat // x ≤ N }) => N - x.1) (⟨0, Nat.zero_le N⟩) ([2, 22, 23, 6, 24]) ([0, 8321]) ([AV.own 0 6 0 0 6, AV.isl 1 N fun (i x : Nat) => Zi (f i), Zi (↑N : Int), AV.nsl, Zi 0]) ([some ⟨6, 1, true, Rep.lst [Bas.cells b]⟩, some ⟨32, 0, true, Rep.lst []⟩]) (fun x4 => (.br (decide ((↑x4.1 : Int) < (↑N : Int))) (.req ((0 : Int) ≤ (↑x4.1 : Int) ∧ (↑x4.1 : Int) < (↑N : Int)) (.sc (true) 130 ([AV.agg [Zi (Bas.gr b).1, Zi (Bas.gr b).2, Zi (Bas.gr b).3], Zi (f (Int.toNat (↑x4.1 : Int)))]) (AV.bool (validG (Bas.gr b) && elemB (Bas.gr b) (f (Int.toNat (↑x4.1 : Int))))) (.br (!(validG b.1 && elemB b.1 (f (Int.toNat (↑x4.1 : Int))))) (.out (AV.tup [AV.nsl, Zi 2]) [] y0 []) (.dc (true) 136 ([AV.agg [Zi 1, Zi (f (Int.toNat (↑x4.1 : Int))), AV.nsl, AV.nsl]]) (AV.tup [il IntKind.u8 (It.enc (It.int (f (Int.toNat (↑x4.1 : Int))))), Zi 0]) (.sc (true) 137 ([AV.isl 1 9 fun (i x : Nat) => Zb (List.getD (It.enc (It.int (f (Int.toNat (↑x4.1 : Int))))) i (0 : Int))]) (AV.tup [AV.agg (u8c (tagF (String.toUTF8 "specie/leaf") (List.length (It.enc (It.int (f (Int.toNat (↑x4.1 : Int)))))) fun (i : Nat) => List.getD (It.enc (It.int (f (Int.toNat (↑x4.1 : Int))))) i (0 : Int))), Zi 0]) (.req ((x4.1 + 1) * 32 ≤ 140737488355328) (.again (Again 0 (fun (x : { x : Nat // x ≤ N }) => mkSt [2, 22, 23, 6, 24] [AV.own 0 6 0 0 6, AV.isl 1 N fun (i x : Nat) => Zi (f i), Zi (↑N : Int), AV.osl 1 32 0 (x.1), Zi (↑(x.1) : Int)] [some ⟨6, 1, true, Rep.lst [Bas.cells b]⟩, some ⟨32, x.1, true, Rep.row fun (i : Nat) => u8c (leafF (f i))⟩]) (fun (x : { x : Nat // x ≤ N }) => N - x.1) x4) ([2, 22, 23, 6, 24]) ([0, 226]) ([AV.own 0 6 0 0 6, AV.isl 1 N fun (i x : Nat) => Zi (f i), Zi (↑N : Int), AV.osl 1 32 0 (x4.1 + 1), Zi (IntKind.wrap IntKind.i64 ((↑x4.1 : Int) + 1))]) ([some ⟨6, 1, true, Rep.lst [Bas.cells b]⟩, some ⟨32, x4.1 + 1, true, Rep.cat x4.1 (Rep.row fun (i : Nat) => u8c (leafF (f i))) (Rep.lst [u8c (tagF (String.toUTF8 "specie/leaf") (List.length (It.enc (It.int (f (Int.toNat (↑x4.1 : Int)))))) fun (i : Nat) => List.getD (It.enc (It.int (f (Int.toNat (↑x4.1 : Int))))) i (0 : Int))])⟩])))))))) (.out (AV.tup [AV.isl 32 x4.1 fun (r k : Nat) => atL (u8c (leafF (f (r + 0)))) k, Zi 0]) [] y0 []))))))))
    (by kernel_rfl) ?_
  refine k_sc ((bvalid_c b) (by assumption)) ?_
  refine k_scg (fun h1 => leaves_c ((↑N : Int))) ?_
  refine k_br (fun h2 => ?_) (fun h2 => ?_)
  · have g2 := (cnd_or_t (cnd_not_t cnd_id_f) (cnd_not_t cnd_id_f)) h2
    exact k_out (by exfalso; rcases g2 with g | g; (· rw [hv] at g; cases g); (· rw [hl] at g; cases g))
  · have g2 := (cnd_or_f (cnd_not_f cnd_id_t) (cnd_not_f cnd_id_t)) h2
    refine k_loop (fun _ hs => hs.le (by repeat' (first | exact trivial | (first | exact Ent.refl _ | exact inc_ent (by omega) | exact Ent.nil rfl | exact Ent.of_eq (congrArg (AV.osl _ _ _) (by first | omega | (dsimp only; omega))) | exact Ent.of_eq (congrArg (AV.int _) (by first | omega | (dsimp only; omega)))) | refine And.intro ?_ ?_)) (by exact ⟨ObEnt.refl _, ObEnt.zero, trivial⟩)) (fun x4 => ?_)
    try (have q4 := x4.2; dsimp only at q4)
    refine k_br (fun h5 => ?_) (fun h5 => ?_)
    · have g5 := cnd_dec_t h5
      refine k_req (by omega) ?_
      refine k_sc ((contains_c (Bas.gr b)) (f (Int.toNat (↑x4.1 : Int))) (by assumption)) ?_
      refine k_br (fun h8 => ?_) (fun h8 => ?_)
      · have g8 := (cnd_not_t (cnd_and_f cnd_id_f cnd_id_f)) h8
        try simp only [Int.toNat_natCast] at g8
        exact k_out (by exfalso; rcases g8 with g | g; (· rw [validG_iff.2 (validB_ok hv)] at g; cases g); (· rw [hf _ (by omega)] at g; cases g))
      · have g8 := (cnd_not_f (cnd_and_t cnd_id_t cnd_id_t)) h8
        try simp only [Int.toNat_natCast] at g8
        refine k_dc (encN_c (f (Int.toNat (↑x4.1 : Int)))) ?_
        refine k_sc (ht (f (Int.toNat (↑x4.1 : Int)))) ?_
        refine k_req (by omega) ?_
        exact k_again (⟨x4.1 + 1, by omega⟩) (fun _ hs => hs.le (by repeat' (first | exact trivial | (first | exact Ent.refl _ | exact inc_ent (by omega) | exact Ent.nil rfl | exact Ent.of_eq (congrArg (AV.osl _ _ _) (by first | omega | (dsimp only; omega))) | exact Ent.of_eq (congrArg (AV.int _) (by first | omega | (dsimp only; omega)))) | refine And.intro ?_ ?_)) (by exact ⟨ObEnt.refl _, ObEnt.catRow rfl (fun _ _ => EntL.refl _) (EntL.refl _), trivial⟩)) (by (dsimp only; omega))
    · have g5 := cnd_dec_f h5
      exact k_out (tup2_out (hsl_out (by omega)))

theorem rhash_c (n : Nat) (hn : n ≤ 1000) (f : Nat → Int) : Pure Tryz.prog gl0 62 [.isl 1 n fun i _ => .int .i64 (f i)] (hsl n fun i => leafF (f i)) := by
  have ht := fun x : Int => rtleaf_c (It.int x).enc.length (fun i => (It.int x).enc.getD i 0) (by rw [int_len]; decide) (It.enc_by (x := .int x) trivial)
  refine pure_sk (own := ow0) Tryz.func62 (by kernel_rfl) mixed (by kernel_rfl)
    (.loop ({ x : Nat // x ≤ n }) (fun (x : { x : Nat // x ≤ n }) => mkSt [0, 3, 4] [AV.isl 1 n fun (i x : Nat) => Zi (f i), AV.osl 0 32 0 (x.1), Zi (↑(x.1) : Int)] [some ⟨32, x.1, true, Rep.row fun (i : Nat) => u8c (leafF (f i))⟩]) (fun (x : { x : Nat // x ≤ n }) => n - x.1) (⟨0, Nat.zero_le n⟩) ([0, 3, 4]) ([8216]) ([AV.isl 1 n fun (i x : Nat) => Zi (f i), AV.nsl, Zi 0]) ([some ⟨32, 0, true, Rep.lst []⟩]) (fun x0 => (.br (decide ((↑x0.1 : Int) < (↑n : Int))) (.req ((0 : Int) ≤ (↑x0.1 : Int) ∧ (↑x0.1 : Int) < (↑n : Int)) (.dc (true) 124 ([AV.agg [Zi 1, Zi (f (Int.toNat (↑x0.1 : Int))), AV.nsl, AV.nsl]]) (il IntKind.u8 (It.enc (It.int (f (Int.toNat (↑x0.1 : Int)))))) (.sc (true) 142 ([AV.isl 1 9 fun (i x : Nat) => Zb (List.getD (It.enc (It.int (f (Int.toNat (↑x0.1 : Int))))) i (0 : Int))]) (AV.agg (u8c (tagF (String.toUTF8 "specie/leaf") (List.length (It.enc (It.int (f (Int.toNat (↑x0.1 : Int)))))) fun (i : Nat) => List.getD (It.enc (It.int (f (Int.toNat (↑x0.1 : Int))))) i (0 : Int)))) (.req ((x0.1 + 1) * 32 ≤ 140737488355328) (.again (Again 0 (fun (x : { x : Nat // x ≤ n }) => mkSt [0, 3, 4] [AV.isl 1 n fun (i x : Nat) => Zi (f i), AV.osl 0 32 0 (x.1), Zi (↑(x.1) : Int)] [some ⟨32, x.1, true, Rep.row fun (i : Nat) => u8c (leafF (f i))⟩]) (fun (x : { x : Nat // x ≤ n }) => n - x.1) x0) ([0, 3, 4]) ([105]) ([AV.isl 1 n fun (i x : Nat) => Zi (f i), AV.osl 0 32 0 (x0.1 + 1), Zi (IntKind.wrap IntKind.i64 ((↑x0.1 : Int) + 1))]) ([some ⟨32, x0.1 + 1, true, Rep.cat x0.1 (Rep.row fun (i : Nat) => u8c (leafF (f i))) (Rep.lst [u8c (tagF (String.toUTF8 "specie/leaf") (List.length (It.enc (It.int (f (Int.toNat (↑x0.1 : Int)))))) fun (i : Nat) => List.getD (It.enc (It.int (f (Int.toNat (↑x0.1 : Int))))) i (0 : Int))])⟩])))))) (.out (AV.isl 32 x0.1 fun (r k : Nat) => atL (u8c (leafF (f (r + 0)))) k) [] (hsl n fun (i : Nat) => leafF (f i)) []))))
    (by kernel_rfl) ?_
  refine k_loop (fun _ hs => hs.le (by repeat' (first | exact trivial | (first | exact Ent.refl _ | exact inc_ent (by omega) | exact Ent.nil rfl | exact Ent.of_eq (congrArg (AV.osl _ _ _) (by first | omega | (dsimp only; omega))) | exact Ent.of_eq (congrArg (AV.int _) (by first | omega | (dsimp only; omega)))) | refine And.intro ?_ ?_)) (by exact ⟨ObEnt.zero, trivial⟩)) (fun x0 => ?_)
  try (have q0 := x0.2; dsimp only at q0)
  refine k_br (fun h1 => ?_) (fun h1 => ?_)
  · have g1 := cnd_dec_t h1
    refine k_req (by omega) ?_
    refine k_dc (rencN_c (f (Int.toNat (↑x0.1 : Int)))) ?_
    refine k_sc (ht (f (Int.toNat (↑x0.1 : Int)))) ?_
    refine k_req (by omega) ?_
    exact k_again (⟨x0.1 + 1, by omega⟩) (fun _ hs => hs.le (by repeat' (first | exact trivial | (first | exact Ent.refl _ | exact inc_ent (by omega) | exact Ent.nil rfl | exact Ent.of_eq (congrArg (AV.osl _ _ _) (by first | omega | (dsimp only; omega))) | exact Ent.of_eq (congrArg (AV.int _) (by first | omega | (dsimp only; omega)))) | refine And.intro ?_ ?_)) (by exact ⟨ObEnt.catRow rfl (fun _ _ => EntL.refl _) (EntL.refl _), trivial⟩)) (by (dsimp only; omega))
  · have g1 := cnd_dec_f h1
    exact k_out (hsl_out (by omega))

end Go.Proofs.YtdaaddkipdmajaaGreatDoor

namespace Go.Sp
open Go Go.Am
def prdF (G : Grp) (f e : Nat → Int) : Nat → Int
  | 0 => 1
  | x + 1 => prdF G f e x * (f x ^ (e x).toNat % G.p) % G.p
theorem elem_one {G : Grp} (h : G.Ok) : elemB G 1 = true := (elem_iff h).2 ⟨Int.le_refl _, by have := h.p3; omega, by rw [Int.one_pow]; exact Int.emod_eq_of_lt (by decide) (by have := h.p3; omega)⟩
theorem elem_prd {G : Grp} (h : G.Ok) {f e : Nat → Int} {n : Nat} (hf : ∀ i, i < n → elemB G (f i) = true) : ∀ x, x ≤ n → elemB G (prdF G f e x) = true
  | 0, _ => elem_one h
  | x + 1, hx => elem_mul h (elem_prd h hf x (by omega)) (elem_pow h (hf x (by omega)) _)
def pr2 (G : Grp) (a b x y : Int) : Int := a ^ x.toNat % G.p * (b ^ y.toNat % G.p) % G.p
def sel2 (a b : Int) (i : Nat) : Int := [a, b].getD i 0
theorem prd_2 {G : Grp} (h : G.Ok) {f e : Nat → Int} : prdF G f e 2 = pr2 G (f 0) (f 1) (e 0) (e 1) := by
  show (1 * (f 0 ^ (e 0).toNat % G.p) % G.p) * (f 1 ^ (e 1).toNat % G.p) % G.p = _
  rw [Int.one_mul, Int.emod_eq_of_lt (mod_bnd h _).1 (mod_bnd h _).2]
  rfl
theorem sel_isl {os : List (Option Ob)} {a b : Int} : Ent os (.isl 1 2 fun r k => atL (List.getD [[.int .i64 a], [.int .i64 b]] r []) k) (.isl 1 2 fun i _ => .int .i64 (sel2 a b i)) := Ent.isl fun i j hi hj => by
  obtain rfl : j = 0 := Nat.lt_one_iff.1 hj
  match i, hi with | 0, _ | 1, _ => rfl
def chk2 (b : Bas) (y r1 r2 : Int) : Bool := scaB b.gr r1 && scaB b.gr r2 && (pr2 b.gr b.g1 b.g2 r1 r2 == y)
theorem fst_no {p : Nat → Bool} {n : Nat} (h : ∀ i, i < n → p i = false) : decide (firstI p n 0 ≥ 0) = false := by
  rw [firstI_neg]
  apply List.any_eq_false.2
  intro i hi
  rw [Nat.zero_add, h i (List.mem_range.1 hi)]
  decide
theorem fst_2 {p : Nat → Bool} : decide (firstI p 2 0 ≥ 0) = (p 0 || p 1) := by
  rw [firstI_neg]
  show (p (0 + 0) || (p (0 + 1) || false)) = _
  rw [Bool.or_false, Nat.zero_add, Nat.zero_add]
theorem sca_iff {G : Grp} {r : Int} : scaB G r = true ↔ 0 ≤ r ∧ r < G.q := by unfold scaB; simp
theorem sca_sel {G : Grp} {a c : Int} (h : scaB G a = true ∧ scaB G c = true) : ∀ i, i < 2 → 0 ≤ sel2 a c i ∧ sel2 a c i < G.q := fun i hi => match i, hi with
  | 0, _ => sca_iff.1 h.1
  | 1, _ => sca_iff.1 h.2
def pr2V (b : Bas) (r1 r2 : Int) : Int := bif scaB b.gr r1 && scaB b.gr r2 then pr2 b.gr b.g1 b.g2 r1 r2 else 0
def pr2E (b : Bas) (r1 r2 : Int) : Int := bif scaB b.gr r1 && scaB b.gr r2 then 0 else 2
theorem pr2_no {b : Bas} {r1 r2 : Int} (h : scaB b.gr r1 = false ∨ scaB b.gr r2 = false) : pr2V b r1 r2 = 0 ∧ pr2E b r1 r2 = 2 := by
  have e : (scaB b.gr r1 && scaB b.gr r2) = false := by rcases h with h | h <;> simp [h]
  unfold pr2V pr2E; rw [e]; exact ⟨rfl, rfl⟩
theorem pr2_ok {b : Bas} {r1 r2 : Int} (h : scaB b.gr r1 = true ∧ scaB b.gr r2 = true) : pr2V b r1 r2 = pr2 b.gr b.g1 b.g2 r1 r2 ∧ pr2E b r1 r2 = 0 := by
  unfold pr2V pr2E; rw [h.1, h.2]; exact ⟨rfl, rfl⟩
theorem chk2_eq {b : Bas} {y r1 r2 : Int} : (pr2E b r1 r2 == 0 && pr2V b r1 r2 == y) = chk2 b y r1 r2 := by
  unfold chk2
  cases h1 : scaB b.gr r1 with
  | false => rw [(pr2_no (.inl h1)).2]; rfl
  | true =>
    cases h2 : scaB b.gr r2 with
    | false => rw [(pr2_no (.inr h2)).2]; rfl
    | true => rw [(pr2_ok ⟨h1, h2⟩).1, (pr2_ok ⟨h1, h2⟩).2]; rfl
theorem sca_n {G : Grp} {e : Int} : (decide (e < 0) || decide (e ≥ G.q)) = !scaB G e := by
  unfold scaB
  by_cases h : e < 0 <;> by_cases h' : e ≥ G.q <;> simp [h, h'] <;> omega
def leafB (b : Bas) (a k x r1 r2 : Int) : Bool := elemB b.gr x && chk2 b (a ^ k.toNat % b.gr.p * x % b.gr.p) r1 r2
theorem leaf_no {b : Bas} {a k x r1 r2 : Int} (h : (elemB b.gr x = false ∨ scaB b.gr r1 = false) ∨ scaB b.gr r2 = false) : leafB b a k x r1 r2 = false := by
  unfold leafB chk2; rcases h with (h | h) | h <;> simp [h]
theorem leaf_eq {b : Bas} {a k x r1 r2 : Int} (h : (elemB b.gr x = true ∧ scaB b.gr r1 = true) ∧ scaB b.gr r2 = true) : (b.g1 ^ r1.toNat % b.gr.p * (b.g2 ^ r2.toNat % b.gr.p) % b.gr.p == a ^ k.toNat % b.gr.p * x % b.gr.p) = leafB b a k x r1 r2 := by
  unfold leafB chk2; rw [h.1.1, h.1.2, h.2]; rfl
end Go.Sp

namespace Go.Proofs.YtdaaddkipdmajaaGreatDoor
open Go Go.Am Go.Sp
set_option maxRecDepth 100000

theorem pel1_c (G : Grp) (x : Int) (h : G.Ok) (hw : G.W) : Pure Tryz.prog gl0 265 [.int .i64 x, .ipt 3 (atL G.cells)] (.bool (!elemB G x)) := by
  have hg := validG_iff.2 h
  refine pure_sk (own := ow0) Tryz.func265 (by kernel_rfl) mixed (by kernel_rfl)
    (.sc (true) 130 ([AV.agg [Zi G.1, Zi G.2, Zi G.3], Zi x]) (AV.bool (validG G && elemB G x)) (.out (AV.bool !(validG G && elemB G x)) [] (AV.bool !elemB G x) []))
    (by kernel_rfl) ?_
  refine k_sc ((contains_c G) (x) (by assumption)) ?_
  exact k_out (Ent.of_eq (congrArg _ (by rw [hg, Bool.true_and])))

theorem pex1_c (G : Grp) (x : Int) : Pure Tryz.prog gl0 266 [.int .i64 x, .ipt 3 (atL G.cells)] (.bool (decide (x < 0) || decide (x ≥ G.q))) := by
  refine pure_sk (own := ow0) Tryz.func266 (by kernel_rfl) mixed (by kernel_rfl)
    (.out (AV.bool (decide (x < 0) || decide (x ≥ G.2))) [] (AV.bool (decide (x < 0) || decide (x ≥ Grp.q G))) [])
    (by kernel_rfl) ?_
  exact k_out (Ent.refl _)

theorem pel_c (G : Grp) (n : Nat) (f : Nat → Int) (hn : n ≤ 1000) (h : G.Ok) (hw : G.W) (hf : ∀ i, i < n → elemB G (f i) = true) : Pure Tryz.prog gl0 237 [G.av, .isl 1 n fun i _ => .int .i64 (f i)] (.bool true) := by
  have c1 := conI_w 265 3 (atL G.cells) f n (fun i => !elemB G (f i)) hn (fun i _ => pel1_c G (f i) h hw)
  have e := fst_no (p := fun i => !elemB G (f i)) (n := n) (fun i hi => by rw [hf i hi]; rfl)
  refine pure_sk (own := ow0) Tryz.func237 (by kernel_rfl) mixed (by kernel_rfl)
    (.sc (true) 197 ([AV.isl 1 n fun (i x : Nat) => Zi (f i), AV.fn (Fn.func 265) [] [AV.ipt 3 fun (k : Nat) => atL [Zi G.1, Zi G.2, Zi G.3] k]]) (AV.bool (decide (firstI (fun (i : Nat) => !elemB G (f i)) n 0 ≥ 0))) (.out (AV.bool !decide (firstI (fun (i : Nat) => !elemB G (f i)) n 0 ≥ 0)) [] (AV.bool true) []))
    (by kernel_rfl) ?_
  refine k_sc (c1) ?_
  exact k_out (Ent.of_eq (congrArg _ (by rw [e]; rfl)))

theorem pex_c (G : Grp) (a c : Int) : Pure Tryz.prog gl0 238 [G.av, .isl 1 2 fun i _ => .int .i64 (sel2 a c i)] (.bool (scaB G a && scaB G c)) := by
  have c1 := conI_w 266 3 (atL G.cells) (sel2 a c) 2 (fun i => decide (sel2 a c i < 0) || decide (sel2 a c i ≥ G.q)) (by decide) (fun i _ => pex1_c G (sel2 a c i))
  have e := fst_2 (p := fun i => decide (sel2 a c i < 0) || decide (sel2 a c i ≥ G.q))
  refine pure_sk (own := ow0) Tryz.func238 (by kernel_rfl) mixed (by kernel_rfl)
    (.sc (true) 197 ([AV.isl 1 2 fun (i x : Nat) => Zi (sel2 a c i), AV.fn (Fn.func 266) [] [AV.ipt 3 fun (k : Nat) => atL [Zi G.1, Zi G.2, Zi G.3] k]]) (AV.bool (decide (firstI (fun (i : Nat) => decide (sel2 a c i < 0) || decide (sel2 a c i ≥ Grp.q G)) 2 0 ≥ 0))) (.out (AV.bool !decide (firstI (fun (i : Nat) => decide (sel2 a c i < 0) || decide (sel2 a c i ≥ G.2)) 2 0 ≥ 0)) [] (AV.bool (scaB G a && scaB G c)) []))
    (by kernel_rfl) ?_
  refine k_sc (c1) ?_
  exact k_out (Ent.of_eq (congrArg _ (by rw [e, sca_n, sca_n, ← Bool.not_and, Bool.not_not]; rfl)))

theorem powers_c (G : Grp) (f e : Nat → Int) (h : G.Ok) (hw : G.W) (hf : ∀ i, i < 2 → elemB G (f i) = true) (he : ∀ i, i < 2 → 0 ≤ e i ∧ e i < G.q) : Pure Tryz.prog gl0 239 [G.av, .isl 1 2 fun i _ => .int .i64 (f i), .isl 1 2 fun i _ => .int .i64 (e i)] (.tup [.int .i64 (prdF G f e 2), .int .i64 0]) := by
  refine pure_sk (own := ow0) Tryz.func239 (by kernel_rfl) mixed (by kernel_rfl)
    (let y0 : List (Option Ob) := [some ⟨3, 1, true, Rep.lst [[Zi (Grp.p G), Zi (Grp.q G), Zi (Grp.g G)]]⟩]; (.loop ({ x : Nat // x ≤ 2 }) (fun (x : { x : Nat // x ≤ 2 }) => mkSt [2, 3, 13, 14, 8, 15] [AV.isl 1 2 fun (i x : Nat) => Zi (e i), AV.own 0 3 0 0 3, AV.isl 1 2 fun (i x : Nat) => Zi (f i), Zi (↑(2) : Int), Zi (prdF G f e (x.1)), Zi (↑(x.1) : Int)] y0) (fun (x : { x : Nat // x ≤ 2 }) => 2 - x.1) (⟨0, Nat.zero_le 2⟩) ([2, 3, 13, 14, 8, 15]) ([0]) ([AV.isl 1 2 fun (i x : Nat) => Zi (e i), AV.own 0 3 0 0 3, AV.isl 1 2 fun (i x : Nat) => Zi (f i), Zi (↑(2) : Int), Zi 1, Zi 0]) (y0) (fun x0 => (.br (decide ((↑x0.1 : Int) < (↑(2) : Int))) (.req ((0 : Int) ≤ (↑x0.1 : Int) ∧ (↑x0.1 : Int) < (↑(2) : Int)) (.req ((0 : Int) ≤ (↑x0.1 : Int) ∧ (↑x0.1 : Int) < (↑(2) : Int)) (.sc (true) 48 ([AV.agg [Zi G.1, Zi G.2, Zi G.3], Zi (f (Int.toNat (↑x0.1 : Int))), Zi (e (Int.toNat (↑x0.1 : Int)))]) (AV.tup [Zi (f (Int.toNat (↑x0.1 : Int)) ^ Int.toNat (e (Int.toNat (↑x0.1 : Int))) % Grp.p G), Zi 0]) (.ff (.sc (true) 49 ([AV.agg [Zi G.1, Zi G.2, Zi G.3], Zi (prdF G f e x0.1), Zi (f (Int.toNat (↑x0.1 : Int)) ^ Int.toNat (e (Int.toNat (↑x0.1 : Int))) % G.1)]) (AV.tup [Zi (prdF G f e x0.1 * (f (Int.toNat (↑x0.1 : Int)) ^ Int.toNat (e (Int.toNat (↑x0.1 : Int))) % G.1) % Grp.p G), Zi 0]) (.ff (.again (Again 0 (fun (x : { x : Nat // x ≤ 2 }) => mkSt [2, 3, 13, 14, 8, 15] [AV.isl 1 2 fun (i x : Nat) => Zi (e i), AV.own 0 3 0 0 3, AV.isl 1 2 fun (i x : Nat) => Zi (f i), Zi (↑(2) : Int), Zi (prdF G f e (x.1)), Zi (↑(x.1) : Int)] y0) (fun (x : { x : Nat // x ≤ 2 }) => 2 - x.1) x0) ([2, 3, 13, 14, 8, 15]) ([0]) ([AV.isl 1 2 fun (i x : Nat) => Zi (e i), AV.own 0 3 0 0 3, AV.isl 1 2 fun (i x : Nat) => Zi (f i), Zi (↑(2) : Int), Zi (prdF G f e x0.1 * (f (Int.toNat (↑x0.1 : Int)) ^ Int.toNat (e (Int.toNat (↑x0.1 : Int))) % G.1) % G.1), Zi (IntKind.wrap IntKind.i64 ((↑x0.1 : Int) + 1))]) (y0)))))))) (.out (AV.tup [Zi (prdF G f e x0.1), Zi 0]) [] (AV.tup [Zi (prdF G f e 2), Zi 0]) [])))))
    (by kernel_rfl) ?_
  refine k_loop (fun _ hs => hs.le (⟨.refl _, .refl _, .refl _, .refl _, .refl _, .refl _, trivial⟩) (⟨.refl _, trivial⟩)) (fun x0 => ?_)
  try (have q0 := x0.2; dsimp only at q0)
  refine k_br (fun h1 => ?_) (fun h1 => ?_)
  · have g1 := cnd_dec_t h1
    refine k_req (by omega) ?_
    refine k_req (by omega) ?_
    refine k_sc ((gpow_c G) (f (Int.toNat (↑x0.1 : Int))) (e (Int.toNat (↑x0.1 : Int))) (by assumption) (by assumption) (by exact hf _ (by omega)) (by exact he _ (by omega))) ?_
    refine k_ff ?_
    refine k_sc ((gmul_c G) (prdF G f e x0.1) (f (Int.toNat (↑x0.1 : Int)) ^ Int.toNat (e (Int.toNat (↑x0.1 : Int))) % G.1) (by assumption) (by assumption) (by exact elem_prd h hf _ (by omega)) (by exact elem_pow h (hf _ (by omega)) _)) ?_
    refine k_ff ?_
    exact k_again (⟨x0.1 + 1, by omega⟩) (fun _ hs => hs.le (⟨.refl _, .refl _, .refl _, .refl _, .refl _, inc_ent (by omega), trivial⟩) (⟨.refl _, trivial⟩)) (by dsimp only; omega)
  · have g1 := cnd_dec_f h1
    exact k_out (by exact Ent.of_eq (by rw [show x0.1 = 2 by omega]))

theorem product2_c (b : Bas) (r1 r2 : Int) (hw : b.gr.W) (hv : validB b = true) : Pure Tryz.prog gl0 196 [b.gr.av, .isl 1 2 fun i _ => .int .i64 (sel2 b.g1 b.g2 i), .isl 1 2 fun i _ => .int .i64 (sel2 r1 r2 i)] (.tup [.int .i64 (pr2V b r1 r2), .int .i64 (pr2E b r1 r2)]) := by
  have h := validB_iff.1 hv
  have hf : ∀ i, i < 2 → elemB b.gr (sel2 b.g1 b.g2 i) = true := fun i hi => match i, hi with | 0, _ => h.e1 | 1, _ => h.e2
  have hg := validG_iff.2 h.G
  have c1 := pel_c b.gr 2 (sel2 b.g1 b.g2) (by decide) h.G hw hf
  have c2 := pex_c b.gr r1 r2
  have c3 := fun he => powers_c b.gr (sel2 b.g1 b.g2) (sel2 r1 r2) h.G hw hf he
  refine pure_sk (own := ow0) Tryz.func196 (by kernel_rfl) mixed (by kernel_rfl)
    (let y0 : List AV := [Zi (Bas.gr b).1, Zi (Bas.gr b).2, Zi (Bas.gr b).3]; let y1 : AV := (AV.tup [Zi (pr2V b r1 r2), Zi (pr2E b r1 r2)]); (.sc (true) 129 ([AV.agg y0]) (AV.bool (validG (Bas.gr b))) (.br (!validG b.1 || false) (.out (AV.tup [Zi 0, Zi 1]) [] y1 []) (.ff (.sc (true) 237 ([AV.agg y0, AV.isl 1 2 fun (i x : Nat) => Zi (sel2 b.2 b.3 i)]) (AV.bool true) (.sc (true) 238 ([AV.agg y0, AV.isl 1 2 fun (i x : Nat) => Zi (sel2 r1 r2 i)]) (AV.bool (scaB (Bas.gr b) r1 && scaB (Bas.gr b) r2)) (.br (!(scaB b.1 r1 && scaB b.1 r2)) (.out (AV.tup [Zi 0, Zi 2]) [] y1 []) (.sc (true) 239 ([AV.agg y0, AV.isl 1 2 fun (i x : Nat) => Zi (sel2 b.2 b.3 i), AV.isl 1 2 fun (i x : Nat) => Zi (sel2 r1 r2 i)]) (AV.tup [Zi (prdF (Bas.gr b) (sel2 (Bas.g1 b) (Bas.g2 b)) (sel2 r1 r2) 2), Zi 0]) (.out (AV.tup [Zi (prdF b.1 (sel2 b.2 b.3) (sel2 r1 r2) 2), Zi 0]) [] y1 [])))))))))
    (by kernel_rfl) ?_
  refine k_sc ((gvalid_c (Bas.gr b)) (by assumption)) ?_
  refine k_br (fun h1 => ?_) (fun h1 => ?_)
  · have g1 := (cnd_or_t (cnd_not_t cnd_id_f) cnd_id_t) h1
    exact k_out (by exfalso; simp [hg] at g1)
  · have g1 := (cnd_or_f (cnd_not_f cnd_id_t) cnd_id_f) h1
    refine k_ff ?_
    refine k_sc (c1) ?_
    refine k_sc (c2) ?_
    refine k_br (fun h6 => ?_) (fun h6 => ?_)
    · have g6 := (cnd_not_t (cnd_and_f cnd_id_f cnd_id_f)) h6
      exact k_out (Ent.of_eq (by rw [(pr2_no g6).1, (pr2_no g6).2]))
    · have g6 := (cnd_not_f (cnd_and_t cnd_id_t cnd_id_t)) h6
      refine k_sc (c3 (sca_sel g6)) ?_
      exact k_out (Ent.of_eq (by rw [(pr2_ok g6).1, (pr2_ok g6).2, prd_2 h.G]; rfl))

theorem check2_c (b : Bas) (y r1 r2 : Int) (hw : b.gr.W) (hv : validB b = true) : Pure Tryz.prog gl0 151 [b.gr.av, .int .i64 y, .isl 1 2 fun i _ => .int .i64 (sel2 b.g1 b.g2 i), .isl 1 2 fun i _ => .int .i64 (sel2 r1 r2 i)] (.bool (chk2 b y r1 r2)) := by
  have c1 := product2_c b r1 r2 hw hv
  refine pure_sk (own := ow0) Tryz.func151 (by kernel_rfl) mixed (by kernel_rfl)
    (.sc (true) 196 ([AV.agg [Zi (Bas.gr b).1, Zi (Bas.gr b).2, Zi (Bas.gr b).3], AV.isl 1 2 fun (i x : Nat) => Zi (sel2 b.2 b.3 i), AV.isl 1 2 fun (i x : Nat) => Zi (sel2 r1 r2 i)]) (AV.tup [Zi (pr2V b r1 r2), Zi (pr2E b r1 r2)]) (.out (AV.bool (pr2E b r1 r2 == 0 && pr2V b r1 r2 == y)) [] (AV.bool (chk2 b y r1 r2)) []))
    (by kernel_rfl) ?_
  refine k_sc (c1) ?_
  exact k_out (Ent.of_eq (congrArg _ chk2_eq))

theorem check2_l (b : Bas) (y r1 r2 : Int) (hw : b.gr.W) (hv : validB b = true) : Pure Tryz.prog gl0 151 [b.gr.av, .int .i64 y, .isl 1 2 fun r k => atL (List.getD [[.int .i64 b.g1], [.int .i64 b.g2]] r []) k, .isl 1 2 fun r k => atL (List.getD [[.int .i64 r1], [.int .i64 r2]] r []) k] (.bool (chk2 b y r1 r2)) :=
  (check2_c b y r1 r2 hw hv).via ⟨Ent.refl _, Ent.refl _, sel_isl, sel_isl, trivial⟩

end Go.Proofs.YtdaaddkipdmajaaGreatDoor

namespace Go.Proofs.YtdaaddkipdmajaaGreatDoor
open Go Go.Am Go.Sp
set_option maxRecDepth 100000

theorem sright_c (b : Bas) (a k x r1 r2 : Int) (hw : b.gr.W) (hv : validB b = true) (ha : elemB b.gr a = true) (hk : 0 ≤ k ∧ k < b.gr.q) : Pure Tryz.prog gl0 71 [b.av, .int .i64 a, .int .i64 k, .agg [.int .i64 x, .int .i64 r1, .int .i64 r2]] (.bool (leafB b a k x r1 r2)) := by
  have h := validB_iff.1 hv
  have hg := validG_iff.2 h.G
  have c1 := contains_c b.gr x hw
  have c2 := gpow_c b.gr a k h.G hw ha hk
  have c3 := fun hx => gmul_c b.gr (a ^ k.toNat % b.gr.p) x h.G hw (elem_pow h.G ha _) hx
  have c4 := check2_l b (a ^ k.toNat % b.gr.p * x % b.gr.p) r1 r2 hw hv
  rw [hg, Bool.true_and] at c1
  refine pure_sk (own := ow0) Tryz.func71 (by kernel_rfl) mixed (by kernel_rfl)
    (let y0 : List AV := [Zi (Bas.gr b).1, Zi (Bas.gr b).2, Zi (Bas.gr b).3]; (.sc (true) 130 ([AV.agg y0, Zi x]) (AV.bool (elemB (Bas.gr b) x)) (.br (!elemB b.1 x) (.out (AV.bool false) [] (AV.bool (leafB b a k x r1 r2)) []) (.sc (true) 48 ([AV.agg y0, Zi a, Zi k]) (AV.tup [Zi (a ^ Int.toNat k % Grp.p (Bas.gr b)), Zi 0]) (.ff (.sc (true) 49 ([AV.agg y0, Zi (a ^ Int.toNat k % (Bas.gr b).1), Zi x]) (AV.tup [Zi (a ^ Int.toNat k % Grp.p (Bas.gr b) * x % Grp.p (Bas.gr b)), Zi 0]) (.sc (true) 151 ([AV.agg y0, Zi (a ^ Int.toNat k % (Bas.gr b).1 * x % (Bas.gr b).1), AV.isl 1 2 fun (r k : Nat) => atL (List.getD [[Zi b.2], [Zi b.3]] (r + 0) []) k, AV.isl 1 2 fun (r k : Nat) => atL (List.getD [[Zi r1], [Zi r2]] (r + 0) []) k]) (AV.bool (chk2 b (a ^ Int.toNat k % Grp.p (Bas.gr b) * x % Grp.p (Bas.gr b)) r1 r2)) (.out (AV.bool (chk2 b (a ^ Int.toNat k % (Bas.gr b).1 * x % (Bas.gr b).1) r1 r2)) [] (AV.bool (leafB b a k x r1 r2)) []))))))))
    (by kernel_rfl) ?_
  refine k_sc (c1) ?_
  refine k_br (fun h1 => ?_) (fun h1 => ?_)
  · have g1 := (cnd_not_t cnd_id_f) h1
    exact k_out (Ent.of_eq (congrArg _ (by unfold leafB; rw [g1]; rfl)))
  · have g1 := (cnd_not_f cnd_id_t) h1
    refine k_sc (c2) ?_
    refine k_ff ?_
    refine k_sc (c3 (g1)) ?_
    refine k_sc (c4) ?_
    exact k_out (Ent.of_eq (congrArg _ (by unfold leafB; rw [g1]; rfl)))

theorem r10pow_c (G : Grp) (a e : Int) (h : G.Ok) (ha : 0 ≤ a ∧ a < G.p) (he : 0 ≤ e ∧ e < G.q) : Pure Tryz.prog gl0 155 [G.av, .int .i64 a, .int .i64 e] (.int .i64 (a ^ e.toNat % G.p)) := by
  have k1 := h.p1; have k2 := h.qp; have k3 := h.p3
  have hr := rreduce_c e G.q (by omega) (by omega)
  rw [red_q he] at hr
  refine pure_sk (own := ow0) Tryz.func155 (by kernel_rfl) mixed (by kernel_rfl)
    (.sc (true) 65 ([Zi e, Zi G.2]) (Zi e) (.sc (true) 104 ([Zi a, Zi e, Zi G.1]) (Zi (a ^ Int.toNat e % G.1)) (.out (Zi (a ^ Int.toNat e % G.1)) [] (Zi (a ^ Int.toNat e % Grp.p G)) [])))
    (by kernel_rfl) ?_
  refine k_sc (hr) ?_
  refine k_sc (rpow_c (a) (e) (G.1) (by omega) (by omega) (by omega) (by omega) (by assumption)) ?_
  exact k_out (Ent.refl _)

theorem r10mul_c (G : Grp) (a c : Int) (h : G.Ok) (ha : 0 ≤ a ∧ a < G.p) (hc : 0 ≤ c ∧ c < G.p) : Pure Tryz.prog gl0 154 [G.av, .int .i64 a, .int .i64 c] (.int .i64 (a * c % G.p)) := by
  have k1 := h.p1; have k3 := h.p3
  refine pure_sk (own := ow0) Tryz.func154 (by kernel_rfl) mixed (by kernel_rfl)
    (.sc (true) 64 ([Zi a, Zi c, Zi G.1]) (Zi (a * c % G.1)) (.out (Zi (a * c % G.1)) [] (Zi (a * c % Grp.p G)) []))
    (by kernel_rfl) ?_
  refine k_sc (rmul_c (a) (c) (G.1) (by omega) (by omega) (by omega) (by omega) (by assumption)) ?_
  exact k_out (Ent.refl _)

theorem rscal31_c (G : Grp) (x : Int) : Pure Tryz.prog gl0 84 [G.av, .int .i64 x] (.bool (scaB G x)) := by
  refine pure_sk (own := ow0) Tryz.func84 (by kernel_rfl) mixed (by kernel_rfl)
    (.out (AV.bool (decide (x ≥ 0) && decide (x < G.2))) [] (AV.bool (scaB G x)) [])
    (by kernel_rfl) ?_
  exact k_out (Ent.refl _)

theorem rleaf_c (b : Bas) (a k x r1 r2 : Int) (h : b.Ok) (ha : elemB b.gr a = true) (hk : 0 ≤ k ∧ k < b.gr.q) : Pure Tryz.prog gl0 74 [b.av, .int .i64 a, .int .i64 k, .agg [.int .i64 x, .int .i64 r1, .int .i64 r2]] (.bool (leafB b a k x r1 r2)) := by
  have e1 := el_bnd h.G h.e1
  have e2 := el_bnd h.G h.e2
  have ea := el_bnd h.G ha
  refine pure_sk (own := ow0) Tryz.func74 (by kernel_rfl) mixed (by kernel_rfl)
    (let y0 : List AV := [Zi (Bas.gr b).1, Zi (Bas.gr b).2, Zi (Bas.gr b).3]; (.sc (true) 78 ([AV.agg y0, Zi x]) (AV.bool (elemB (Bas.gr b) x)) (.sc ((!elemB b.1 x) == false) 84 ([AV.agg y0, Zi r1]) (AV.bool (scaB (Bas.gr b) r1)) (.sc ((!elemB b.1 x || !scaB b.1 r1) == false) 84 ([AV.agg y0, Zi r2]) (AV.bool (scaB (Bas.gr b) r2)) (.br (!elemB b.1 x || !scaB b.1 r1 || !scaB b.1 r2) (.out (AV.bool false) [] (AV.bool (leafB b a k x r1 r2)) []) (.sc (true) 155 ([AV.agg y0, Zi b.2, Zi r1]) (Zi (b.2 ^ Int.toNat r1 % Grp.p (Bas.gr b))) (.sc (true) 155 ([AV.agg y0, Zi b.3, Zi r2]) (Zi (b.3 ^ Int.toNat r2 % Grp.p (Bas.gr b))) (.sc (true) 154 ([AV.agg y0, Zi (b.2 ^ Int.toNat r1 % (Bas.gr b).1), Zi (b.3 ^ Int.toNat r2 % (Bas.gr b).1)]) (Zi (b.2 ^ Int.toNat r1 % (Bas.gr b).1 * (b.3 ^ Int.toNat r2 % (Bas.gr b).1) % Grp.p (Bas.gr b))) (.sc (true) 155 ([AV.agg y0, Zi a, Zi k]) (Zi (a ^ Int.toNat k % Grp.p (Bas.gr b))) (.sc (true) 154 ([AV.agg y0, Zi (a ^ Int.toNat k % (Bas.gr b).1), Zi x]) (Zi (a ^ Int.toNat k % (Bas.gr b).1 * x % Grp.p (Bas.gr b))) (.out (AV.bool (b.2 ^ Int.toNat r1 % (Bas.gr b).1 * (b.3 ^ Int.toNat r2 % (Bas.gr b).1) % (Bas.gr b).1 == a ^ Int.toNat k % (Bas.gr b).1 * x % (Bas.gr b).1)) [] (AV.bool (leafB b a k x r1 r2)) [])))))))))))
    (by kernel_rfl) ?_
  refine k_sc ((member_c (Bas.gr b)) (x) (by exact h.G)) ?_
  refine k_scg (fun h1 => (rscal31_c (Bas.gr b)) (r1)) ?_
  refine k_scg (fun h2 => (rscal31_c (Bas.gr b)) (r2)) ?_
  refine k_br (fun h3 => ?_) (fun h3 => ?_)
  · have g3 := (cnd_or_t (cnd_or_t (cnd_not_t cnd_id_f) (cnd_not_t cnd_id_f)) (cnd_not_t cnd_id_f)) h3
    exact k_out (Ent.of_eq (congrArg _ (leaf_no g3).symm))
  · have g3 := (cnd_or_f (cnd_or_f (cnd_not_f cnd_id_t) (cnd_not_f cnd_id_t)) (cnd_not_f cnd_id_t)) h3
    refine k_sc ((r10pow_c (Bas.gr b)) (b.2) (r1) (by exact h.G) (by assumption) (by exact sca_iff.1 g3.1.2)) ?_
    refine k_sc ((r10pow_c (Bas.gr b)) (b.3) (r2) (by exact h.G) (by assumption) (by exact sca_iff.1 g3.2)) ?_
    refine k_sc ((r10mul_c (Bas.gr b)) (b.2 ^ Int.toNat r1 % (Bas.gr b).1) (b.3 ^ Int.toNat r2 % (Bas.gr b).1) (by exact h.G) (by exact mod_bnd h.G _) (by exact mod_bnd h.G _)) ?_
    refine k_sc ((r10pow_c (Bas.gr b)) (a) (k) (by exact h.G) (by assumption) (by assumption)) ?_
    refine k_sc ((r10mul_c (Bas.gr b)) (a ^ Int.toNat k % (Bas.gr b).1) (x) (by exact h.G) (by exact mod_bnd h.G _) (by exact el_bnd h.G g3.1.1)) ?_
    exact k_out (Ent.of_eq (congrArg _ (leaf_eq g3)))

end Go.Proofs.YtdaaddkipdmajaaGreatDoor

namespace Go.Sp
open Go Go.Am
def lbF (s : Spend) (i : Nat) : Int := s.lf i 0
def newB (s : Spend) (i : Nat) : Bool := !decide (lbF s i ∈ (List.range i).map (lbF s))
def okL (b : Bas) (s : Spend) (i : Nat) : Bool := leafB b s.a (chS b s) (s.lf i 0) (s.lf i 1) (s.lf i 2) && newB s i
def dpN (s : Spend) : Nat := (s.depth - s.level).toNat
def topF (s : Spend) : Nat → Int := treF (fun i => leafF (lbF s i)) (dpN s) 0
def hdB (b : Bas) (r : Rcd) (s : Spend) : Bool := coinV b r s.coin && nodeB s.depth s.level s.index && ctxB s.time s.number && Nat.beq s.nl (2 ^ dpN s) && s.pidx == s.index
def vfy (b : Bas) (r : Rcd) (s : Spend) : Bool := hdB b r s && allI (okL b s) s.nl && ((s.np : Int) == s.level && hEq (folF (topF s) s.pidx s.pf s.np) s.root)
theorem map_ent {os : List (Option Ob)} {n : Nat} {f : Nat → Int} : Ent os (.isl 1 n fun i _ => .int .i64 (f i)) (il .i64 ((List.range n).map f)) := by
  show Ent os _ (.isl 1 ((List.range n).map f).length _)
  rw [show ((List.range n).map f).length = n by simp]
  exact Ent.isl fun i j hi _ => congrArg (AV.int .i64) (getD_map hi).symm
theorem mem_map_r {f : Nat → Int} {n : Nat} {v : Int} : v ∈ (List.range n).map f ↔ ∃ j, j < n ∧ f j = v := by simp
theorem sz_w {s : Spend} (h : nodeB s.depth s.level s.index = true) : IntKind.wrap .i64 (1 * 2 ^ min (Int.toNat (IntKind.wrap .i64 (s.depth - s.level))) 64) = ((2 ^ dpN s : Nat) : Int) ∧ IntKind.wrap .i64 (s.depth - s.level) = s.depth - s.level ∧ dpN s ≤ 5 := by
  have k := node_t h
  have e : IntKind.wrap .i64 (s.depth - s.level) = s.depth - s.level := wI (by omega) (by omega)
  refine ⟨?_, e, by unfold dpN; omega⟩
  rw [e]
  exact shw (x := dpN s) (by unfold dpN; omega)
theorem cv_ok {b : Bas} {r : Rcd} {c : Coin} (h : coinV b r c = true) : validB b = true ∧ elemB b.gr c.a = true := by
  unfold coinV rcvB keyB verR at h
  simp only [Bool.and_eq_true] at h
  exact ⟨h.1.1.1.1.1.1.1.1.1.1.1, msg_el h.2.1.1.1.2⟩
structure HdOk (b : Bas) (r : Rcd) (s : Spend) : Prop where
  hd : hdB b r s = true
  v : validB b = true
  a : elemB b.gr s.a = true
  n : nodeB s.depth s.level s.index = true
  l : s.nl = 2 ^ dpN s
  d : dpN s ≤ 5
  lv : 0 ≤ s.level ∧ s.level ≤ 5
  ix : 0 ≤ s.pidx ∧ s.pidx < 2 ^ s.level.toNat
  n32 : s.nl ≤ 32
  lb : lvB s.nl = true
  q0 : 0 < b.gr.q
  q1 : b.gr.q < 2305843009213693952
  k : 0 ≤ chS b s ∧ chS b s < b.gr.q
  top : byB (topF s) 32
  p0 : 0 ≤ s.pidx
  p1 : s.pidx < 9223372036854775807
theorem leafF_by (x : Int) : byB (leafF x) 32 := tagI_by _ _ _
theorem hd_of {b : Bas} {r : Rcd} {s : Spend} (h : hdB b r s = true) : HdOk b r s := by
  have h0 := h
  unfold hdB at h
  simp only [Bool.and_eq_true, Nat.beq_eq, beq_iff_eq] at h
  obtain ⟨⟨⟨⟨h1, h2⟩, _⟩, h4⟩, h5⟩ := h
  have k := node_t h2
  have hd : dpN s ≤ 5 := (sz_w h2).2.2
  have hp : 2 ^ dpN s ≤ 32 := by have := pow5 (d := dpN s) (k := 0) hd; rwa [Nat.sub_zero] at this
  have hq := validB_q (cv_ok h1).1
  exact ⟨h0, (cv_ok h1).1, (cv_ok h1).2, h2, h4, hd, by omega, by rw [h5]; exact ⟨k.2.2.2.2.1, k.2.2.2.2.2⟩, by omega, by rw [h4]; exact lvB_d hd, hq.1, hq.2, chS_q hq.1,
    tre_by (n := 2 ^ dpN s) (fun i _ => leafF_by _) (dpN s) 0 (by omega), by omega, by have := (p2 (k := s.level) (by omega) (by omega)).2.2.2; omega⟩
abbrev szW (s : Spend) : Int := IntKind.wrap .i64 (1 * 2 ^ min (Int.toNat (IntKind.wrap .i64 (s.depth - s.level))) 64)
theorem hd_ok {b : Bas} {r : Rcd} {s : Spend} (h : (((coinV b r s.coin = true ∧ nodeB s.depth s.level s.index = true) ∧ ctxB s.time s.number = true) ∧ (s.nl : Int) = szW s) ∧ s.pidx = s.index) : HdOk b r s := by
  refine hd_of ?_
  obtain ⟨⟨⟨⟨h1, h2⟩, h3⟩, h4⟩, h5⟩ := h
  have h4 := h4.trans (sz_w h2).1
  have h4 : s.nl = 2 ^ dpN s := Int.ofNat.inj h4
  unfold hdB
  rw [h1, h2, h3, (Nat.beq_eq ▸ h4 : Nat.beq s.nl (2 ^ dpN s) = true), h5]
  simp
theorem vfy_h {b : Bas} {r : Rcd} {s : Spend} (h : hdB b r s = false) : vfy b r s = false := by unfold vfy; rw [h]; rfl
theorem hd_no {b : Bas} {r : Rcd} {s : Spend} (h : (((coinV b r s.coin = false ∨ nodeB s.depth s.level s.index = false) ∨ ctxB s.time s.number = false) ∨ ¬ (s.nl : Int) = szW s) ∨ ¬ s.pidx = s.index) : vfy b r s = false := by
  refine vfy_h ?_
  rcases h with (((h | h) | h) | h) | h
  · unfold hdB; simp [h]
  · unfold hdB; simp [h]
  · unfold hdB; simp [h]
  · cases hn : nodeB s.depth s.level s.index with
    | false => unfold hdB; simp [hn]
    | true =>
      have h : ¬ (s.nl : Int) = ((2 ^ dpN s : Nat) : Int) := fun e => h (e.trans (sz_w hn).1.symm)
      have : Nat.beq s.nl (2 ^ dpN s) = false := by
        rw [Bool.eq_false_iff, ne_eq, Nat.beq_eq]
        exact fun e => h (congrArg Int.ofNat e)
      unfold hdB; simp [this]
  · unfold hdB; simp [h]
theorem okL_el {b : Bas} {s : Spend} {i : Nat} (h : okL b s i = true) : elemB b.gr (lbF s i) = true := by
  unfold okL leafB at h; simp only [Bool.and_eq_true] at h; exact h.1.1
theorem okL_no {b : Bas} {s : Spend} {i : Nat} (h : leafB b s.a (chS b s) (s.lf i 0) (s.lf i 1) (s.lf i 2) = false ∨ s.lf i 0 ∈ (List.range i).map fun i => lbF s (i + 0)) : okL b s i = false := by
  unfold okL newB
  rcases h with h | h
  · rw [h]; rfl
  · have h : lbF s i ∈ (List.range i).map (lbF s) := h
    rw [decide_eq_true h]; simp
theorem okL_yes {b : Bas} {s : Spend} {i : Nat} (h : leafB b s.a (chS b s) (s.lf i 0) (s.lf i 1) (s.lf i 2) = true ∧ ¬ s.lf i 0 ∈ (List.range i).map fun i => lbF s (i + 0)) : okL b s i = true := by
  unfold okL newB
  have h' : ¬ lbF s i ∈ (List.range i).map (lbF s) := h.2
  rw [decide_eq_false h', h.1]; rfl
theorem vfy_l {b : Bas} {r : Rcd} {s : Spend} {i : Nat} (hi : i < s.nl) (h : okL b s i = false) : vfy b r s = false := by
  unfold vfy; rw [allI_f hi h]; simp
theorem vfy_t {b : Bas} {r : Rcd} {s : Spend} (hd : hdB b r s = true) (h : ∀ i, i < s.nl → okL b s i = true) : vfy b r s = ((s.np : Int) == s.level && hEq (folF (topF s) s.pidx s.pf s.np) s.root) := by
  unfold vfy; rw [hd, allI_t h]; rfl
abbrev szR (s : Spend) : Int := IntKind.wrap .i64 (spanZ s.depth s.level s.index - spanA s.depth s.level s.index)
theorem sz_r {s : Spend} (h : nodeB s.depth s.level s.index = true) : szR s = ((2 ^ dpN s : Nat) : Int) := by
  have k := node_t h
  have e : spanZ s.depth s.level s.index - spanA s.depth s.level s.index = ((2 ^ dpN s : Nat) : Int) := by
    unfold spanZ spanA
    rw [if_pos h, if_pos h, Int.add_mul, Int.one_mul, Int.natCast_pow]
    show s.index * 2 ^ dpN s + 2 ^ dpN s - s.index * 2 ^ dpN s = 2 ^ dpN s
    generalize s.index * 2 ^ dpN s = y
    omega
  have hp : 2 ^ dpN s ≤ 32 := by have := pow5 (d := dpN s) (k := 0) (sz_w h).2.2; rwa [Nat.sub_zero] at this
  unfold szR
  rw [e]
  have hi : ((2 ^ dpN s : Nat) : Int) ≤ 32 := Int.ofNat_le.2 hp
  have h0 : (0 : Int) ≤ ((2 ^ dpN s : Nat) : Int) := Int.natCast_nonneg _
  generalize ((2 ^ dpN s : Nat) : Int) = y at hi h0
  exact wI (by omega) (by omega)
theorem cv_v {b : Bas} {r : Rcd} {c : Coin} (h : validB b = false) : coinV b r c = false := by
  cases hc : coinV b r c with
  | false => rfl
  | true => rw [(cv_ok hc).1] at h; cases h
theorem rhd_no {b : Bas} {r : Rcd} {s : Spend} (h : ((validB b = false ∨ coinV b r s.coin = false) ∨ nodeB s.depth s.level s.index = false) ∨ ctxB s.time s.number = false) : vfy b r s = false := by
  refine vfy_h ?_
  rcases h with ((h | h) | h) | h
  · unfold hdB; simp [cv_v h]
  · unfold hdB; simp [h]
  · unfold hdB; simp [h]
  · unfold hdB; simp [h]
theorem rhd_ok {b : Bas} {r : Rcd} {s : Spend} (h : ((validB b = true ∧ coinV b r s.coin = true) ∧ nodeB s.depth s.level s.index = true) ∧ ctxB s.time s.number = true) (h' : ((s.nl : Int) = szR s ∧ s.pidx = s.index) ∧ (s.np : Int) = s.level) : HdOk b r s :=
  hd_ok ⟨⟨⟨⟨h.1.1.2, h.1.2⟩, h.2⟩, h'.1.1.trans ((sz_r h.1.2).trans (sz_w h.1.2).1.symm)⟩, h'.1.2⟩
theorem vfy_n {b : Bas} {r : Rcd} {s : Spend} (h : ¬ (s.np : Int) = s.level) : vfy b r s = false := by
  unfold vfy
  rw [show ((s.np : Int) == s.level) = false by simpa using h]
  simp
theorem rhd_no2 {b : Bas} {r : Rcd} {s : Spend} (h : ((validB b = true ∧ coinV b r s.coin = true) ∧ nodeB s.depth s.level s.index = true) ∧ ctxB s.time s.number = true) (h' : (¬ (s.nl : Int) = szR s ∨ ¬ s.pidx = s.index) ∨ ¬ (s.np : Int) = s.level) : vfy b r s = false := by
  rcases h' with (h' | h') | h'
  · exact hd_no (.inl (.inr fun e => h' (e.trans ((sz_w h.1.2).1.trans (sz_r h.1.2).symm))))
  · exact hd_no (.inr h')
  · exact vfy_n h'
theorem vfy_r {b : Bas} {r : Rcd} {s : Spend} (hd : hdB b r s = true) (hn : (s.np : Int) = s.level) (h : ∀ i, i < s.nl → okL b s i = true) : vfy b r s = hEq (folF (topF s) s.pidx s.pf s.np) s.root := by
  rw [vfy_t hd h, show ((s.np : Int) == s.level) = true by simpa using hn]; rfl
theorem okL_n {b : Bas} {s : Spend} {i : Nat} (h : leafB b s.a (chS b s) (s.lf i 0) (s.lf i 1) (s.lf i 2) = true) (hk : ∀ j, j < i → ¬ lbF s j = lbF s i) : okL b s i = true :=
  okL_yes ⟨h, fun e => by
    obtain ⟨j, hj, e⟩ := (mem_map_r (f := fun i => lbF s (i + 0))).1 e
    exact hk j hj e⟩
theorem okL_l {b : Bas} {s : Spend} {i : Nat} (h : leafB b s.a (chS b s) (s.lf i 0) (s.lf i 1) (s.lf i 2) = false) : okL b s i = false := okL_no (.inl h)
theorem okL_m {b : Bas} {s : Spend} {i j : Nat} (hj : j < i) (h : s.lf j 0 = s.lf i 0) : okL b s i = false := okL_no (.inr (mem_map_r.2 ⟨j, hj, h⟩))
theorem ne_next {f : Nat → Int} {v : Int} {i : Nat} (h : ∀ j, j < i → ¬ f j = v) (hi : ¬ f i = v) : ∀ j, j < i + 1 → ¬ f j = v := fun j hj => by
  by_cases e : j = i
  · subst e; exact hi
  · exact h j (by omega)
end Go.Sp
