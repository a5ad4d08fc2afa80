/- Part of the proof: GE2, Nod, Exp, GE3, GE4, GE5, GR1, GR2, Exp2, Clm. -/
import Derived.Test.YtmhipmiacghgeaaGreatDoorM6
import Derived.Test.YtmhipmiacghgeaaGreatDoorM3
import Derived.Test.YtmhipmiacghgeaaGreatDoorProg
import Derived.Test.YtmhipmiacghgeaaGreatDoorM4
namespace Go.Proofs.YtmhipmiacghgeaaGreatDoor
open Go Go.Am Go.Sp
set_option maxRecDepth 100000

theorem xspan_c (s : Spend) : Pure Tryz.prog gl0 54 [s.av] (.tup [.int .i64 (bif okS s then spanA s.depth s.level s.index else 0), .int .i64 (bif okS s then spanZ s.depth s.level s.index else 0), .bool (okS s)]) := by
  refine pure_sk (own := ow0) Tryz.func54 (by kernel_rfl) mixed (by kernel_rfl)
    (.sc (true) 75 ([Zi s.4, AV.agg [Zi s.11, Zi s.12]]) (AV.tup [Zi (spanA s.4 s.11 s.12), Zi (spanZ s.4 s.11 s.12), Zi (spanE s.4 s.11 s.12)]) (.br (spanE s.4 s.11 s.12 != (0 : Int) || (↑s.16 : Int) != IntKind.wrap IntKind.i64 (spanZ s.4 s.11 s.12 - spanA s.4 s.11 s.12) || decide (s.14 < (0 : Int)) || decide (s.14 > (1099511627776 : Int)) || decide (s.15 < (0 : Int)) || decide (s.15 > (1073741824 : Int))) (.out (AV.tup [Zi 0, Zi 0, AV.bool false]) [] (AV.tup [Zi (bif okS s then spanA (Spend.depth s) (Spend.level s) (Spend.index s) else (0 : Int)), Zi (bif okS s then spanZ (Spend.depth s) (Spend.level s) (Spend.index s) else (0 : Int)), AV.bool (okS s)]) []) (.out (AV.tup [Zi (spanA s.4 s.11 s.12), Zi (spanZ s.4 s.11 s.12), AV.bool true]) [] (AV.tup [Zi (bif okS s then spanA (Spend.depth s) (Spend.level s) (Spend.index s) else (0 : Int)), Zi (bif okS s then spanZ (Spend.depth s) (Spend.level s) (Spend.index s) else (0 : Int)), AV.bool (okS s)]) [])))
    (by kernel_rfl) ?_
  refine k_sc (span_c (s.4) (s.11) (s.12)) ?_
  refine k_br (fun h1 => ?_) (fun h1 => ?_)
  · have g1 := (cnd_or_t (cnd_or_t (cnd_or_t (cnd_or_t (cnd_or_t cnd_bne_t cnd_bne_t) cnd_dec_t) cnd_dec_t) cnd_dec_t) cnd_dec_t) h1
    exact k_out (Ent.of_eq (by have e : okS s = false := congrArg not h1; rw [e]; rfl))
  · have g1 := (cnd_or_f (cnd_or_f (cnd_or_f (cnd_or_f (cnd_or_f cnd_bne_f cnd_bne_f) cnd_dec_f) cnd_dec_f) cnd_dec_f) cnd_dec_f) h1
    exact k_out (Ent.of_eq (by have e : okS s = true := congrArg not h1; rw [e]; rfl))

theorem formed1_c (s : Spend) : Pure Tryz.prog gl0 103 [s.av] (.bool (!okS s)) := by
  refine pure_sk (own := ow0) Tryz.func103 (by kernel_rfl) mixed (by kernel_rfl)
    (.sc (true) 54 ([AV.agg (Spend.cells s)]) (AV.tup [Zi (bif okS s then spanA (Spend.depth s) (Spend.level s) (Spend.index s) else (0 : Int)), Zi (bif okS s then spanZ (Spend.depth s) (Spend.level s) (Spend.index s) else (0 : Int)), AV.bool (okS s)]) (.out (AV.bool !okS s) [] (AV.bool !okS s) []))
    (by kernel_rfl) ?_
  refine k_sc ((xspan_c s)) ?_
  exact k_out (Ent.refl _)

theorem indexS_c (S : Nat → Spend) (n : Nat) (hn : n < 9223372036854775808) : Pure Tryz.prog gl0 86 [.isl 80 n (fun i j => atL (S i).cells j), .fn (.func 103) [] []] (.int .i64 (firstI (fun i => !okS (S i)) n 0)) := by
  refine pure_sk (own := ow0) Tryz.func86 (by kernel_rfl) mixed (by kernel_rfl)
    (.loop (Sp.Sub fun (i : Nat) => firstI (fun (i : Nat) => !okS (S i)) n (0 : Nat) = firstI (fun (i : Nat) => !okS (S i)) (n - i) i) (fun (x : Sp.Sub fun (i : Nat) => firstI (fun (i : Nat) => !okS (S i)) n (0 : Nat) = firstI (fun (i : Nat) => !okS (S i)) (n - i) i) => mkSt [0, 1, 6, 7, 8] [AV.isl (80 : Nat) n fun (i j : Nat) => atL (Spend.cells (S i)) j, AV.fn (Fn.func (103 : FuncId)) [] [], AV.isl (80 : Nat) n fun (i j : Nat) => atL (Spend.cells (S i)) j, Zi (↑n : Int), Zi (↑(Subtype.val x) : Int)] []) (fun (i : Sp.Sub fun (i : Nat) => firstI (fun (i : Nat) => !okS (S i)) n (0 : Nat) = firstI (fun (i : Nat) => !okS (S i)) (n - i) i) => n - Subtype.val i) (⟨(0 : Nat), rfl⟩) ([0, 1, 6, 7, 8]) ([]) ([AV.isl (80) n fun (i j : Nat) => atL (Spend.cells (S i)) j, AV.fn (Fn.func (103 : FuncId)) [] [], AV.isl (80) n fun (i j : Nat) => atL (Spend.cells (S i)) j, Zi (↑n : Int), Zi 0]) ([]) (fun x0 => (.br (decide ((↑x0.1 : Int) < (↑n : Int))) (.req ((0 : Int) ≤ (↑x0.1 : Int) ∧ (↑x0.1 : Int) < (↑n : Int)) (.sc (true) 103 ([AV.agg (Spend.cells (S (Int.toNat (↑(Subtype.val x0) : Int))))]) (AV.bool !okS (S (Int.toNat (↑(Subtype.val x0) : Int)))) (.br (!okS (S (Int.toNat (↑x0.1 : Int)))) (.out (Zi (↑x0.1 : Int)) [] (Zi (firstI (fun (i : Nat) => !okS (S i)) n (0 : Nat))) []) (.again (Again (0) (fun (x : Sp.Sub fun (i : Nat) => firstI (fun (i : Nat) => !okS (S i)) n (0 : Nat) = firstI (fun (i : Nat) => !okS (S i)) (n - i) i) => mkSt [0, 1, 6, 7, 8] [AV.isl (80 : Nat) n fun (i j : Nat) => atL (Spend.cells (S i)) j, AV.fn (Fn.func (103 : FuncId)) [] [], AV.isl (80 : Nat) n fun (i j : Nat) => atL (Spend.cells (S i)) j, Zi (↑n : Int), Zi (↑(Subtype.val x) : Int)] []) (fun (i : Sp.Sub fun (i : Nat) => firstI (fun (i : Nat) => !okS (S i)) n (0 : Nat) = firstI (fun (i : Nat) => !okS (S i)) (n - i) i) => n - Subtype.val i) x0) ([0, 1, 6, 7, 8]) ([]) ([AV.isl (80) n fun (i j : Nat) => atL (Spend.cells (S i)) j, AV.fn (Fn.func (103 : FuncId)) [] [], AV.isl (80) n fun (i j : Nat) => atL (Spend.cells (S i)) j, Zi (↑n : Int), Zi (IntKind.wrap IntKind.i64 ((↑x0.1 : Int) + (1 : Int)))]) ([]))))) (.out (Zi (-1)) [] (Zi (firstI (fun (i : Nat) => !okS (S i)) n (0 : Nat))) []))))
    (by kernel_rfl) ?_
  refine k_loop (fun _ hs => hs.le (by repeat' (first | exact trivial | (first | exact Ent.refl _ | exact inc_ent (by omega) | exact Ent.nil rfl | exact Ent.of_eq (congrArg (AV.osl _ _ _) (by first | omega | (dsimp only; omega))) | exact Ent.of_eq (congrArg (AV.int _) (by first | omega | (dsimp only; omega)))) | refine And.intro ?_ ?_)) (trivial)) (fun x0 => ?_)
  try (have q0 := x0.2; dsimp only at q0)
  refine k_br (fun h1 => ?_) (fun h1 => ?_)
  · have g1 := cnd_dec_t h1
    refine k_req (by have := of_decide_eq_true h1; omega) ?_
    refine k_sc ((formed1_c (S (Int.toNat (↑(Subtype.val x0) : Int))))) ?_
    refine k_br (fun h4 => ?_) (fun h4 => ?_)
    · have g4 := (cnd_not_t cnd_id_f) h4
      try simp only [Int.toNat_natCast] at g4
      exact k_out (Ent.of_eq (congrArg _ (first_hit x0.2 (show x0.1 < n by have := of_decide_eq_true h1; omega) (by simpa using h4))))
    · have g4 := (cnd_not_f cnd_id_t) h4
      try simp only [Int.toNat_natCast] at g4
      exact k_again (⟨x0.1 + 1, first_next x0.2 (show x0.1 < n by have := of_decide_eq_true h1; omega) (by simpa using h4)⟩) (fun _ hs => hs.le (⟨Ent.refl _, Ent.refl _, Ent.refl _, Ent.refl _, inc_ent (by have := of_decide_eq_true h1; omega), trivial⟩) (trivial)) (by have := of_decide_eq_true h1; show n - (x0.1 + 1) < n - x0.1; omega)
  · have g1 := cnd_dec_f h1
    exact k_out (Ent.of_eq (congrArg _ (first_miss x0.2 (by have := of_decide_eq_false h1; omega))))

theorem find1_c (l0 l1 l2 b : Int) : Pure Tryz.prog gl0 106 [.agg [.int .i64 l0, .int .i64 l1, .int .i64 l2], .ipt 1 (atL [.int .i64 b])] (.bool (l0 == b)) := by
  refine pure_sk (own := ow0) Tryz.func106 (by kernel_rfl) mixed (by kernel_rfl)
    (.out (AV.bool (l0 == b)) [] (AV.bool (l0 == b)) [])
    (by kernel_rfl) ?_
  exact k_out (Ent.refl _)

theorem indexL_c (f : Nat → Nat → Int) (n : Nat) (b : Int) (hn : n < 9223372036854775808) : Pure Tryz.prog gl0 105 [lvs n f, .fn (.func 106) [] [.ipt 1 (atL [.int .i64 b])]] (.int .i64 (firstI (fun i => f i 0 == b) n 0)) := by
  refine pure_sk (own := ow0) Tryz.func105 (by kernel_rfl) mixed (by kernel_rfl)
    (.loop (Sp.Sub fun (i : Nat) => firstI (fun (i : Nat) => f i (0 : Nat) == b) n (0 : Nat) = firstI (fun (i : Nat) => f i (0 : Nat) == b) (n - i) i) (fun (x : Sp.Sub fun (i : Nat) => firstI (fun (i : Nat) => f i (0 : Nat) == b) n (0 : Nat) = firstI (fun (i : Nat) => f i (0 : Nat) == b) (n - i) i) => mkSt [0, 1, 6, 7, 8] [lvs n f, AV.fn (Fn.func (106 : FuncId)) [] [AV.ipt (1 : Nat) (atL [Zi b])], lvs n f, Zi (↑n : Int), Zi (↑(Subtype.val x) : Int)] []) (fun (i : Sp.Sub fun (i : Nat) => firstI (fun (i : Nat) => f i (0 : Nat) == b) n (0 : Nat) = firstI (fun (i : Nat) => f i (0 : Nat) == b) (n - i) i) => n - Subtype.val i) (⟨(0 : Nat), rfl⟩) ([0, 1, 6, 7, 8]) ([]) ([AV.isl (3) n fun (i j : Nat) => Zi (f i j), AV.fn (Fn.func (106 : FuncId)) [] [AV.ipt (1) (atL [Zi b])], AV.isl (3) n fun (i j : Nat) => Zi (f i j), Zi (↑n : Int), Zi 0]) ([]) (fun x0 => (.br (decide ((↑x0.1 : Int) < (↑n : Int))) (.req ((0 : Int) ≤ (↑x0.1 : Int) ∧ (↑x0.1 : Int) < (↑n : Int)) (.sc (true) 106 ([AV.agg [Zi (f (Int.toNat (↑x0.1 : Int)) (0)), Zi (f (Int.toNat (↑x0.1 : Int)) (1)), Zi (f (Int.toNat (↑x0.1 : Int)) (2))], AV.ipt (1) (atL [Zi b])]) (AV.bool (f (Int.toNat (↑x0.1 : Int)) (0) == b)) (.br (f (Int.toNat (↑x0.1 : Int)) (0) == b) (.out (Zi (↑x0.1 : Int)) [] (Zi (firstI (fun (i : Nat) => f i (0 : Nat) == b) n (0 : Nat))) []) (.again (Again (0) (fun (x : Sp.Sub fun (i : Nat) => firstI (fun (i : Nat) => f i (0 : Nat) == b) n (0 : Nat) = firstI (fun (i : Nat) => f i (0 : Nat) == b) (n - i) i) => mkSt [0, 1, 6, 7, 8] [lvs n f, AV.fn (Fn.func (106 : FuncId)) [] [AV.ipt (1 : Nat) (atL [Zi b])], lvs n f, Zi (↑n : Int), Zi (↑(Subtype.val x) : Int)] []) (fun (i : Sp.Sub fun (i : Nat) => firstI (fun (i : Nat) => f i (0 : Nat) == b) n (0 : Nat) = firstI (fun (i : Nat) => f i (0 : Nat) == b) (n - i) i) => n - Subtype.val i) x0) ([0, 1, 6, 7, 8]) ([]) ([AV.isl (3) n fun (i j : Nat) => Zi (f i j), AV.fn (Fn.func (106 : FuncId)) [] [AV.ipt (1) (atL [Zi b])], AV.isl (3) n fun (i j : Nat) => Zi (f i j), Zi (↑n : Int), Zi (IntKind.wrap IntKind.i64 ((↑x0.1 : Int) + (1 : Int)))]) ([]))))) (.out (Zi (-1)) [] (Zi (firstI (fun (i : Nat) => f i (0 : Nat) == b) n (0 : Nat))) []))))
    (by kernel_rfl) ?_
  refine k_loop (fun _ hs => hs.le (by repeat' (first | exact trivial | (first | exact Ent.refl _ | exact inc_ent (by omega) | exact Ent.nil rfl | exact Ent.of_eq (congrArg (AV.osl _ _ _) (by first | omega | (dsimp only; omega))) | exact Ent.of_eq (congrArg (AV.int _) (by first | omega | (dsimp only; omega)))) | refine And.intro ?_ ?_)) (trivial)) (fun x0 => ?_)
  try (have q0 := x0.2; dsimp only at q0)
  refine k_br (fun h1 => ?_) (fun h1 => ?_)
  · have g1 := cnd_dec_t h1
    refine k_req (by have := of_decide_eq_true h1; omega) ?_
    refine k_sc (find1_c (f (Int.toNat (↑x0.1 : Int)) (0)) (f (Int.toNat (↑x0.1 : Int)) (1)) (f (Int.toNat (↑x0.1 : Int)) (2)) (b)) ?_
    refine k_br (fun h4 => ?_) (fun h4 => ?_)
    · have g4 := cnd_beq_t h4
      try simp only [Int.toNat_natCast] at g4
      exact k_out (Ent.of_eq (congrArg _ (first_hit x0.2 (show x0.1 < n by have := of_decide_eq_true h1; omega) (by simpa using h4))))
    · have g4 := cnd_beq_f h4
      try simp only [Int.toNat_natCast] at g4
      exact k_again (⟨x0.1 + 1, first_next x0.2 (show x0.1 < n by have := of_decide_eq_true h1; omega) (by simpa using h4)⟩) (fun _ hs => hs.le (⟨Ent.refl _, Ent.refl _, Ent.refl _, Ent.refl _, inc_ent (by have := of_decide_eq_true h1; omega), trivial⟩) (trivial)) (by have := of_decide_eq_true h1; show n - (x0.1 + 1) < n - x0.1; omega)
  · have g1 := cnd_dec_f h1
    exact k_out (Ent.of_eq (congrArg _ (first_miss x0.2 (by have := of_decide_eq_false h1; omega))))

theorem find_c (s : Spend) (b : Int) (hn : s.nl < 9223372036854775808) : Pure Tryz.prog gl0 57 [s.av, .int .i64 b] (.int .i64 (firstI (fun i => s.lf i 0 == b) s.nl 0)) := by
  refine pure_sk (own := ow0) Tryz.func57 (by kernel_rfl) mixed (by kernel_rfl)
    (.sc (true) 105 ([AV.isl (3) s.16 fun (i j : Nat) => Zi (s.17 i j), AV.fn (Fn.func (106 : Nat)) [] [AV.ipt (1) fun (k : Nat) => atL [Zi b] k]]) (Zi (firstI (fun (i : Nat) => s.17 i (0 : Nat) == b) s.16 (0 : Nat))) (.out (Zi (firstI (fun (i : Nat) => s.17 i (0) == b) s.16 (0))) [] (Zi (firstI (fun (i : Nat) => Spend.lf s i (0 : Nat) == b) (Spend.nl s) (0 : Nat))) []))
    (by kernel_rfl) ?_
  refine k_sc (indexL_c (s.17) (s.16) (b) (by first | assumption | omega)) ?_
  exact k_out (Ent.refl _)

theorem containsS_c (S : Nat → Spend) (n : Nat) (hn : n < 9223372036854775808) : Pure Tryz.prog gl0 33 [.isl 80 n (fun i j => atL (S i).cells j), .fn (.func 103) [] []] (.bool (decide (firstI (fun i => !okS (S i)) n 0 ≥ 0))) := by
  refine pure_sk (own := ow0) Tryz.func33 (by kernel_rfl) mixed (by kernel_rfl)
    (.sc (true) 86 ([AV.isl (80) n fun (i j : Nat) => atL (Spend.cells (S i)) j, AV.fn (Fn.func (103 : FuncId)) [] []]) (Zi (firstI (fun (i : Nat) => !okS (S i)) n (0 : Nat))) (.out (AV.bool (decide (firstI (fun (i : Nat) => !okS (S i)) n (0) ≥ (0 : Int)))) [] (AV.bool (decide (firstI (fun (i : Nat) => !okS (S i)) n (0 : Nat) ≥ (0 : Int)))) []))
    (by kernel_rfl) ?_
  refine k_sc ((indexS_c S n hn)) ?_
  exact k_out (Ent.refl _)

theorem formed_c (S : Nat → Spend) (n : Nat) (hn : n < 9223372036854775808) : Pure Tryz.prog gl0 53 [.isl 80 n (fun i j => atL (S i).cells j)] (.bool (!decide (firstI (fun i => !okS (S i)) n 0 ≥ 0))) := by
  refine pure_sk (own := ow0) Tryz.func53 (by kernel_rfl) mixed (by kernel_rfl)
    (.sc (true) 33 ([AV.isl (80) n fun (i j : Nat) => atL (Spend.cells (S i)) j, AV.fn (Fn.func (103 : Nat)) [] []]) (AV.bool (decide (firstI (fun (i : Nat) => !okS (S i)) n (0 : Nat) ≥ (0 : Int)))) (.out (AV.bool !decide (firstI (fun (i : Nat) => !okS (S i)) n (0) ≥ (0 : Int))) [] (AV.bool !decide (firstI (fun (i : Nat) => !okS (S i)) n (0 : Nat) ≥ (0 : Int))) []))
    (by kernel_rfl) ?_
  refine k_sc ((containsS_c S n hn)) ?_
  exact k_out (Ent.refl _)

theorem rformed_c (s : Spend) : Pure Tryz.prog gl0 62 [s.av] (.bool (okS s)) := by
  refine pure_sk (own := ow0) Tryz.func62 (by kernel_rfl) mixed (by kernel_rfl)
    (.sc ((decide (s.4 < (0 : Int)) || decide (s.4 > (5 : Int))) == false) 112 ([Zi s.4, AV.agg [Zi s.11, Zi s.12]]) (AV.bool (nodeB s.4 s.11 s.12)) (.sc ((decide (s.4 < (0 : Int)) || decide (s.4 > (5 : Int)) || !nodeB s.4 s.11 s.12) == false) 113 ([AV.agg (u8c s.13 ++ [Zi s.14, Zi s.15])]) (AV.bool (ctxB (Cxt.time { payee := Spend.payee s, time := Spend.time s, number := Spend.number s }) (Cxt.number { payee := Spend.payee s, time := Spend.time s, number := Spend.number s }))) (.br (decide (s.4 < (0 : Int)) || decide (s.4 > (5 : Int)) || !nodeB s.4 s.11 s.12 || !ctxB s.14 s.15) (.out (AV.bool false) [] (AV.bool (okS s)) []) (.sc (true) 79 ([Zi s.4, AV.agg [Zi s.11, Zi s.12]]) (AV.tup [Zi (spanA s.4 s.11 s.12), Zi (spanZ s.4 s.11 s.12)]) (.out (AV.bool ((↑s.16 : Int) == IntKind.wrap IntKind.i64 (spanZ s.4 s.11 s.12 - spanA s.4 s.11 s.12))) [] (AV.bool (okS s)) [])))))
    (by kernel_rfl) ?_
  refine k_scg (fun h0 => rnode_c (s.4) (s.11) (s.12)) ?_
  refine k_scg (fun h1 => (rctx_c { payee := Spend.payee s, time := Spend.time s, number := Spend.number s })) ?_
  refine k_br (fun h2 => ?_) (fun h2 => ?_)
  · have g2 := (cnd_or_t (cnd_or_t (cnd_or_t cnd_dec_t cnd_dec_t) (cnd_not_t cnd_id_f)) (cnd_not_t cnd_id_f)) h2
    exact k_out (Ent.of_eq (by rw [okS_no h2]))
  · have g2 := (cnd_or_f (cnd_or_f (cnd_or_f cnd_dec_f cnd_dec_f) (cnd_not_f cnd_id_t)) (cnd_not_f cnd_id_t)) h2
    refine k_sc (rspan_c (s.4) (s.11) (s.12) ((okS_yes h2).1)) ?_
    exact k_out (Ent.of_eq (congrArg _ (okS_yes h2).2))

theorem shared_c (a b : Spend) (hn : a.nl ≤ 1000) (hb : b.nl ≤ 1000) : Pure Tryz.prog gl0 56 [a.av, b.av] (il .i64 (sharedL a b)) := by
  refine pure_sk (own := ow0) Tryz.func56 (by kernel_rfl) mixed (by kernel_rfl)
    (.br (a.5 != b.5) (.out (AV.nsl) [] (il IntKind.i64 (sharedL a b)) []) (.sc (true) 54 ([AV.agg (Spend.cells a)]) (AV.tup [Zi (bif okS a then spanA (Spend.depth a) (Spend.level a) (Spend.index a) else (0 : Int)), Zi (bif okS a then spanZ (Spend.depth a) (Spend.level a) (Spend.index a) else (0 : Int)), AV.bool (okS a)]) (.loop (Sp.Sub fun (x : Nat) => x ≤ Spend.nl a) (fun (x : Sp.Sub fun (x : Nat) => x ≤ Spend.nl a) => mkSt [3, 5, 8, 25, 26, 27] [AV.own (0 : Nat) (80 : Nat) (0 : Nat) (0 : Nat) (80 : Nat), Zi (fromS a), AV.osl (1 : Nat) (1 : Nat) (0 : Nat) (List.length (sharedN a b (Subtype.val x))), lvs (Spend.nl a) (Spend.lf a), Zi (↑(Spend.nl a) : Int), Zi (↑(Subtype.val x) : Int)] [some { es := (80 : Nat), n := (1 : Nat), mu := true, f := Rep.lst [Spend.cells b] }, ilO IntKind.i64 (sharedN a b (Subtype.val x))]) (fun (x : Sp.Sub fun (x : Nat) => x ≤ Spend.nl a) => Spend.nl a - Subtype.val x) (⟨(0 : Nat), Nat.zero_le (Spend.nl a)⟩) ([3, 5, 8, 25, 26, 27]) ([8, 449]) ([AV.own (0) (80) (0) (0) (80), Zi (bif okS a then spanA a.4 a.11 a.12 else (0 : Int)), AV.nsl, AV.isl (3) a.16 fun (i j : Nat) => Zi (a.17 i j), Zi (↑a.16 : Int), Zi 0]) ([some { es := 80, n := 1, mu := true, f := Rep.lst [Spend.cells b] }, some { es := 1, n := 0, mu := true, f := Rep.lst [] }]) (fun x3 => (.br (decide ((↑x3.1 : Int) < (↑a.16 : Int))) (.req ((0 : Int) ≤ (↑x3.1 : Int) ∧ (↑x3.1 : Int) < (↑a.16 : Int)) (.sc (true) 57 ([AV.agg (Spend.cells b), Zi (a.17 (Int.toNat (↑x3.1 : Int)) (0))]) (Zi (firstI (fun (i : Nat) => Spend.lf b i (0 : Nat) == a.17 (Int.toNat (↑x3.1 : Int)) (0)) (Spend.nl b) (0 : Nat))) (.br (decide (firstI (fun (i : Nat) => b.17 i (0) == a.17 (Int.toNat (↑x3.1 : Int)) (0)) b.16 (0) ≥ (0 : Int))) (.req ((List.length (sharedN a b (Subtype.val x3)) + 1) * 8 ≤ 140737488355328) (.again (Again (0) (fun (x : Sp.Sub fun (x : Nat) => x ≤ Spend.nl a) => mkSt [3, 5, 8, 25, 26, 27] [AV.own (0 : Nat) (80 : Nat) (0 : Nat) (0 : Nat) (80 : Nat), Zi (fromS a), AV.osl (1 : Nat) (1 : Nat) (0 : Nat) (List.length (sharedN a b (Subtype.val x))), lvs (Spend.nl a) (Spend.lf a), Zi (↑(Spend.nl a) : Int), Zi (↑(Subtype.val x) : Int)] [some { es := (80 : Nat), n := (1 : Nat), mu := true, f := Rep.lst [Spend.cells b] }, ilO IntKind.i64 (sharedN a b (Subtype.val x))]) (fun (x : Sp.Sub fun (x : Nat) => x ≤ Spend.nl a) => Spend.nl a - Subtype.val x) x3) ([3, 5, 8, 25, 26, 27]) ([0, 138]) ([AV.own (0) (80) (0) (0) (80), Zi (fromS a), AV.osl (1) (1) (0) (List.length (sharedN a b (Subtype.val x3)) + 1), AV.isl (3) a.16 fun (i j : Nat) => Zi (a.17 i j), Zi (↑a.16 : Int), Zi (IntKind.wrap IntKind.i64 ((↑x3.1 : Int) + (1 : Int)))]) ([some { es := 80, n := 1, mu := true, f := Rep.lst [Spend.cells b] }, some { es := 1, n := List.length (sharedN a b (Subtype.val x3)) + 1, mu := true, f := Rep.fn fun (i j : Nat) => Zi (bif Nat.blt i (List.length (sharedN a b (Subtype.val x3))) then List.getD (sharedN a b (Subtype.val x3)) i (0 : Int) else intOfAV (atL [Zi (IntKind.wrap IntKind.i64 (fromS a + (↑(Subtype.val x3) : Int)))] j)) }]))) (.again (Again (0) (fun (x : Sp.Sub fun (x : Nat) => x ≤ Spend.nl a) => mkSt [3, 5, 8, 25, 26, 27] [AV.own (0 : Nat) (80 : Nat) (0 : Nat) (0 : Nat) (80 : Nat), Zi (fromS a), AV.osl (1 : Nat) (1 : Nat) (0 : Nat) (List.length (sharedN a b (Subtype.val x))), lvs (Spend.nl a) (Spend.lf a), Zi (↑(Spend.nl a) : Int), Zi (↑(Subtype.val x) : Int)] [some { es := (80 : Nat), n := (1 : Nat), mu := true, f := Rep.lst [Spend.cells b] }, ilO IntKind.i64 (sharedN a b (Subtype.val x))]) (fun (x : Sp.Sub fun (x : Nat) => x ≤ Spend.nl a) => Spend.nl a - Subtype.val x) x3) ([3, 5, 8, 25, 26, 27]) ([0, 1]) ([AV.own (0) (80) (0) (0) (80), Zi (fromS a), AV.osl (1) (1) (0) (List.length (sharedN a b (Subtype.val x3))), AV.isl (3) a.16 fun (i j : Nat) => Zi (a.17 i j), Zi (↑a.16 : Int), Zi (IntKind.wrap IntKind.i64 ((↑x3.1 : Int) + (1 : Int)))]) ([some { es := 80, n := 1, mu := true, f := Rep.lst [Spend.cells b] }, some { es := 1, n := List.length (sharedN a b (Subtype.val x3)), mu := true, f := Rep.fn fun (i j : Nat) => Zi (List.getD (sharedN a b (Subtype.val x3)) i (0 : Int)) }]))))) (.out (AV.isl (1) (List.length (sharedN a b (Subtype.val x3))) fun (r k : Nat) => Zi (List.getD (sharedN a b (Subtype.val x3)) (r + 0) (0 : Int))) [] (il IntKind.i64 (sharedL a b)) []))))))
    (by kernel_rfl) ?_
  refine k_br (fun h0 => ?_) (fun h0 => ?_)
  · have g0 := cnd_bne_t h0
    exact k_out (Ent.nilL (shared_none h0))
  · have g0 := cnd_bne_f h0
    refine k_sc ((xspan_c a)) ?_
    refine k_loop (fun _ hs => hs.le (by repeat' (first | exact trivial | (first | exact Ent.refl _ | exact inc_ent (by omega) | exact Ent.nil rfl | exact Ent.of_eq (congrArg (AV.osl _ _ _) (by first | omega | (dsimp only; omega))) | exact Ent.of_eq (congrArg (AV.int _) (by first | omega | (dsimp only; omega)))) | refine And.intro ?_ ?_)) (by repeat' (first | exact trivial | (first | exact ObEnt.refl _ | exact ObEnt.junk | exact ObEnt.zero | exact ObEnt.push rfl rfl | exact ObEnt.pushRow rfl | exact ObEnt.len (by omega) | exact ObEnt.row (by repeat' (first | exact trivial | (first | exact Ent.refl _ | exact inc_ent (by omega) | exact Ent.nil rfl | exact Ent.of_eq (congrArg (AV.osl _ _ _) (by first | omega | (dsimp only; omega))) | exact Ent.of_eq (congrArg (AV.int _) (by first | omega | (dsimp only; omega)))) | refine And.intro ?_ ?_))) | refine And.intro ?_ ?_))) (fun x3 => ?_)
    try (have q3 := x3.2; dsimp only at q3)
    refine k_br (fun h4 => ?_) (fun h4 => ?_)
    · have g4 := cnd_dec_t h4
      refine k_req (by first | omega | (simp only [Int.toNat_natCast]; omega)) ?_
      refine k_sc ((find_c b) (a.17 (Int.toNat (↑x3.1 : Int)) (0)) (by omega)) ?_
      refine k_br (fun h7 => ?_) (fun h7 => ?_)
      · have g7 := cnd_dec_t h7
        try simp only [Int.toNat_natCast] at g7
        refine k_req (by have := sharedN_len a b x3.1; omega) ?_
        exact k_again (⟨x3.1 + 1, by have := of_decide_eq_true h4; omega⟩) (fun _ hs => hs.le (⟨Ent.refl _, Ent.refl _, Ent.of_eq (congrArg (AV.osl 1 1 0) (sharedN_lt (x := x3.1) h7)), Ent.refl _, Ent.refl _, inc_ent (by omega), trivial⟩) (⟨.refl _, .pushL (sharedN_w (x := x3.1) (by omega) h7), trivial⟩)) (by first | omega | (dsimp only; omega) | (simp; omega))
      · have g7 := cnd_dec_f h7
        try simp only [Int.toNat_natCast] at g7
        exact k_again (⟨x3.1 + 1, by have := of_decide_eq_true h4; omega⟩) (fun _ hs => hs.le (⟨Ent.refl _, Ent.refl _, Ent.of_eq (congrArg (AV.osl 1 1 0) (sharedN_lf (x := x3.1) h7)), Ent.refl _, Ent.refl _, inc_ent (by omega), trivial⟩) (⟨.refl _, shared_same (x := x3.1) h7, trivial⟩)) (by first | omega | (dsimp only; omega) | (simp; omega))
    · have g4 := cnd_dec_f h4
      exact k_out (Ent.ilL (shared_end h0 (by have := of_decide_eq_false h4; omega)))

theorem formed2_c (a b : Spend) : Pure Tryz.prog gl0 53 [.isl 80 2 fun r k => atL (List.getD [a.cells, b.cells] r []) k] (.bool (okS a && okS b)) := by
  refine Pure.ent (Pure.via (formed_c (fun i => bif Nat.beq i 0 then a else b) 2 (by omega)) ?_) (Ent.of_eq (congrArg _ (formed2_m a b)))
  exact ⟨Ent.two (g := fun i => Spend.cells (bif Nat.beq i 0 then a else b)) rfl rfl, trivial⟩

theorem xshared_c (a b : Spend) (hn : a.nl ≤ 1000) (hb : b.nl ≤ 1000) : Pure Tryz.prog gl0 50 [a.av, b.av] (.tup [il .i64 (bif okS a && okS b then sharedL a b else []), .int .i64 (bif okS a && okS b then 0 else 1)]) := by
  refine pure_sk (own := ow0) Tryz.func50 (by kernel_rfl) mixed (by kernel_rfl)
    (.sc (true) 53 ([AV.isl (80) (2) fun (r k : Nat) => atL (List.getD [Spend.cells a, Spend.cells b] (r + 0) []) k]) (AV.bool (okS a && okS b)) (.br (!(okS a && okS b)) (.out (AV.tup [AV.nsl, Zi 1]) [] (AV.tup [il IntKind.i64 (bif okS a && okS b then sharedL a b else []), Zi (bif okS a && okS b then (0 : Int) else (1 : Int))]) []) (.dc (true) 56 ([AV.agg (Spend.cells a), AV.agg (Spend.cells b)]) (il IntKind.i64 (sharedL a b)) (.out (AV.tup [AV.isl (1) (List.length (sharedL a b)) fun (i x : Nat) => Zi (List.getD (sharedL a b) i (0 : Int)), Zi 0]) [] (AV.tup [il IntKind.i64 (bif okS a && okS b then sharedL a b else []), Zi (bif okS a && okS b then (0 : Int) else (1 : Int))]) []))))
    (by kernel_rfl) ?_
  refine k_sc ((formed2_c a b)) ?_
  refine k_br (fun h1 => ?_) (fun h1 => ?_)
  · have g1 := (cnd_not_t (cnd_and_f cnd_id_f cnd_id_f)) h1
    exact k_out (Ent.tup ⟨Ent.nilL (bif_f (not_both h1)), Ent.of_eq (congrArg _ (bif_f (not_both h1)).symm), trivial⟩)
  · have g1 := (cnd_not_f (cnd_and_t cnd_id_t cnd_id_t)) h1
    refine k_dc (shared_c (a) (b) (by first | assumption | omega) (by first | assumption | omega)) ?_
    exact k_out (Ent.tup ⟨Ent.ilL (bif_t (both h1)).symm, Ent.of_eq (congrArg _ (bif_t (both h1)).symm), trivial⟩)

theorem rogueformed_c (s : Spend) (hn : s.nl ≤ 1000) : Pure Tryz.prog gl0 71 [s.av] (.bool (okS s)) := by
  refine pure_sk (own := ow0) Tryz.func71 (by kernel_rfl) mixed (by kernel_rfl)
    (.dc (true) 50 ([AV.agg (Spend.cells s), AV.agg (Spend.cells s)]) (AV.tup [il IntKind.i64 (bif okS s && okS s then sharedL s s else []), Zi (bif okS s && okS s then (0 : Int) else (1 : Int))]) (.out (AV.bool ((bif okS s && okS s then (0 : Int) else (1 : Int)) == (0 : Int))) [] (AV.bool (okS s)) []))
    (by kernel_rfl) ?_
  refine k_dc (xshared_c (s) (s) (by first | assumption | omega) (by first | assumption | omega)) ?_
  exact k_out (Ent.of_eq (congrArg _ (by cases okS s <;> rfl)))

end Go.Proofs.YtmhipmiacghgeaaGreatDoor

namespace Go.Sp
open Go Go.Am
def chalE (b : Bas) (c : Coin) (l i : Int) (x : Cxt) : Int := bif validB b then (bif nodeB c.depth l i && ctxB x.time x.number then 0 else 2) else 1
def chalK (b : Bas) (c : Coin) (l i : Int) (x : Cxt) : Int := bif validB b && (nodeB c.depth l i && ctxB x.time x.number) then chalN b.gr.q c l i x else 0
theorem validB_ok {b : Bas} (h : validB b = true) : b.gr.Ok := by
  unfold validB at h
  simp only [Bool.and_eq_true] at h
  exact validG_iff.1 h.1.1.1.1.1.1
theorem validB_q {b : Bas} (h : validB b = true) : 0 < b.gr.q ∧ b.gr.q < 2305843009213693952 := by
  have h := validB_ok h
  have := h.qp; have := h.q3; have := h.p1
  omega
def amV (v d l i : Int) : Int := if amE v d l i = 0 then v.fdiv (2 ^ min l.toNat 64) else 0
theorem am_1 {v d l i : Int} (h : v < 0 ∨ 1099511627776 < v ∨ d < 0 ∨ 5 < d) : amE v d l i = 1 ∧ amV v d l i = 0 := by
  have e : amE v d l i = 1 := if_pos h
  exact ⟨e, by unfold amV; rw [e]; rfl⟩
theorem am_2 {v d l i : Int} (h : ¬ (v < 0 ∨ 1099511627776 < v ∨ d < 0 ∨ 5 < d)) (hn : nodeB d l i = false) : amE v d l i = 2 ∧ amV v d l i = 0 := by
  have e : amE v d l i = 2 := by unfold amE; rw [if_neg h, hn]; rfl
  exact ⟨e, by unfold amV; rw [e]; rfl⟩
theorem am_3 {v d l i : Int} (h : ¬ (v < 0 ∨ 1099511627776 < v ∨ d < 0 ∨ 5 < d)) (hn : nodeB d l i = true) : amE v d l i = 0 ∧ amV v d l i = v.fdiv (2 ^ min l.toNat 64) := by
  have e : amE v d l i = 0 := by unfold amE; rw [if_neg h, hn]; rfl
  exact ⟨e, by unfold amV; rw [e]; rfl⟩
theorem chal_1 {b : Bas} {c : Coin} {l i : Int} {x : Cxt} (h : validB b = false) : chalE b c l i x = 1 ∧ chalK b c l i x = 0 := by
  unfold chalE chalK; rw [h]; exact ⟨rfl, rfl⟩
theorem chal_2 {b : Bas} {c : Coin} {l i : Int} {x : Cxt} (h : validB b = true) (h' : nodeB c.depth l i = false ∨ ctxB x.time x.number = false) : chalE b c l i x = 2 ∧ chalK b c l i x = 0 := by
  have e : (nodeB c.depth l i && ctxB x.time x.number) = false := by rcases h' with e | e <;> simp [e]
  unfold chalE chalK; rw [h, e]; exact ⟨rfl, rfl⟩
theorem chal_3 {b : Bas} {c : Coin} {l i : Int} {x : Cxt} (h : validB b = true) (h' : nodeB c.depth l i = true ∧ ctxB x.time x.number = true) : chalE b c l i x = 0 ∧ chalK b c l i x = chalN b.gr.q c l i x := by
  have e : (nodeB c.depth l i && ctxB x.time x.number) = true := by simp [h']
  unfold chalE chalK; rw [h, e]; exact ⟨rfl, rfl⟩
theorem span_a {d l i : Int} (h : d < 0 ∨ d > 5) : spanA d l i = 0 ∧ spanZ d l i = 0 ∧ spanE d l i = 1 := span_1 (by simp; omega)
theorem span_b {d l i : Int} (h : ¬ (d < 0 ∨ d > 5)) (hn : nodeB d l i = false) : spanA d l i = 0 ∧ spanZ d l i = 0 ∧ spanE d l i = 2 := span_2 (by simp; omega) (by simp [hn])
theorem span_d {d l i : Int} (hn : nodeB d l i = true) : spanE d l i = 0 ∧ 0 ≤ l ∧ l ≤ d ∧ 0 ≤ d ∧ d ≤ 5 := by
  have h := node_t hn
  refine ⟨?_, by omega, by omega, by omega, by omega⟩
  unfold spanE
  rw [if_neg (by omega), if_pos hn]
end Go.Sp

namespace Go.Sp
open Go Go.Am
def Spend.coin (s : Spend) : Coin := ⟨s.bank, s.epoch, s.denom, s.depth, s.a, s.root, s.z, s.sa, s.sb, s.r⟩
def Spend.cxt (s : Spend) : Cxt := ⟨s.payee, s.time, s.number⟩
/-- Its bytes are bytes. -/
structure Spend.By (s : Spend) : Prop where
  root : byB s.root 32
  payee : byB s.payee 32
def chS (b : Bas) (s : Spend) : Int := chalN b.gr.q s.coin s.level s.index s.cxt
def scB (b : Bas) (x : Int) : Bool := decide (x ≥ 0) && decide (x < b.gr.q)
theorem okS_all {s : Spend} (h : okS s = true) : nodeB s.depth s.level s.index = true ∧ ctxB s.time s.number = true ∧ fromS s = spanA s.depth s.level s.index ∧ toS s = spanZ s.depth s.level s.index ∧ (s.nl : Int) = toS s - fromS s := by
  have hf : fromS s = spanA s.depth s.level s.index := by unfold fromS; rw [h]; rfl
  have ht : toS s = spanZ s.depth s.level s.index := by unfold toS; rw [h]; rfl
  have hn : nodeB s.depth s.level s.index = true := by
    cases hb : nodeB s.depth s.level s.index with
    | true => rfl
    | false =>
      exfalso
      unfold okS at h
      simp [spanE, hb] at h
      omega
  have hb := fromS_bnd s
  have hz : 0 ≤ toS s ∧ toS s ≤ 2000 := by
    rw [ht]
    unfold spanZ
    rw [if_pos hn]
    obtain ⟨h1, h2, h3, h4, h5, h6⟩ := node_t hn
    obtain ⟨q1, _, q2, q3⟩ := p2 (k := s.depth - s.level) (by omega) (by omega)
    obtain ⟨_, _, r2, r3⟩ := p2 (k := s.level) (by omega) (by omega)
    obtain ⟨b1, b2, b3, b4⟩ := bnd h5 h6 r3 q2 q3
    omega
  refine ⟨hn, ?_, hf, ht, ?_⟩
  · unfold okS at h
    unfold ctxB
    simp at h ⊢
    omega
  · unfold okS at h
    rw [← hf, ← ht, wI (by omega) (by omega)] at h
    simp at h
    omega
theorem okS_nl {s : Spend} (h : okS s = true) : toS s ≤ 2000 := by
  obtain ⟨hn, _, _, ht, _⟩ := okS_all h
  rw [ht]
  unfold spanZ
  rw [if_pos hn]
  obtain ⟨h1, h2, h3, h4, h5, h6⟩ := node_t hn
  obtain ⟨q1, _, q2, q3⟩ := p2 (k := s.depth - s.level) (by omega) (by omega)
  obtain ⟨_, _, r2, r3⟩ := p2 (k := s.level) (by omega) (by omega)
  obtain ⟨b1, b2, b3, b4⟩ := bnd h5 h6 r3 q2 q3
  omega
/-- The index of the leaf that is the same. -/
def mateS (s t : Spend) (i : Nat) : Nat := (firstI (fun k => t.lf k 0 == s.lf i 0) t.nl 0).toNat
def leafN (s : Spend) (leaf : Int) : Nat := (leaf - fromS s).toNat
/-- The secret of two spends and a leaf, and the error. -/
noncomputable def secR (b : Bas) (s t : Spend) (leaf : Int) : Int × Int :=
  if validB b = false ∨ (okS s && okS t) = false then (0, 1)
  else if leaf < fromS s ∨ toS s ≤ leaf then (0, 2)
  else if ¬ (s.a = t.a ∧ found t (s.lf (leafN s leaf) 0) = true) then (0, 7)
  else if scB b (s.lf (leafN s leaf) 1) = false ∨ scB b (s.lf (leafN s leaf) 2) = false ∨ scB b (t.lf (mateS s t (leafN s leaf)) 1) = false ∨ scB b (t.lf (mateS s t (leafN s leaf)) 2) = false then (0, 2)
  else if chS b s = chS b t then (0, 20)
  else if s.lf (leafN s leaf) 2 = t.lf (mateS s t (leafN s leaf)) 2 then (0, 10)
  else ((s.lf (leafN s leaf) 1 - t.lf (mateS s t (leafN s leaf)) 1) % b.gr.q * invF ((s.lf (leafN s leaf) 2 - t.lf (mateS s t (leafN s leaf)) 2) % b.gr.q) b.gr.q % b.gr.q, 0)
theorem shared_has {s t : Spend} {leaf : Int} (h : okS s = true) (h1 : ¬ (leaf < fromS s ∨ toS s ≤ leaf)) : leaf ∈ sharedL s t ↔ (s.a = t.a ∧ found t (s.lf (leafN s leaf) 0) = true) := by
  obtain ⟨_, _, _, _, hn⟩ := okS_all h
  unfold sharedL
  by_cases ha : s.a = t.a
  · rw [if_neg (by simp [ha])]
    unfold sharedN leafN
    simp only [List.mem_map, List.mem_filter, List.mem_range]
    constructor
    · rintro ⟨i, ⟨hi, hf⟩, rfl⟩
      refine ⟨ha, ?_⟩
      rw [show (fromS s + (i : Int) - fromS s).toNat = i by omega]
      exact hf
    · rintro ⟨_, hf⟩
      exact ⟨(leaf - fromS s).toNat, ⟨by omega, hf⟩, by omega⟩
  · rw [if_pos ha]
    simp [ha]
theorem mate_lt {s t : Spend} {i : Nat} (h : found t (s.lf i 0) = true) : mateS s t i < t.nl ∧ firstI (fun k => t.lf k 0 == s.lf i 0) t.nl 0 = (mateS s t i : Nat) := by
  have h0 : firstI (fun k => t.lf k 0 == s.lf i 0) t.nl 0 ≥ 0 := of_decide_eq_true h
  have h1 := firstI_lt (p := fun k => t.lf k 0 == s.lf i 0) t.nl 0
  unfold mateS
  constructor <;> omega
theorem first_mem {l : List Int} {v : Int} : (decide (firstI (fun i => l.getD i 0 == v) l.length 0 ≥ 0)) = decide (v ∈ l) := by
  rw [firstI_neg]
  rw [Bool.eq_iff_iff]
  simp only [Nat.zero_add, List.any_eq_true, List.mem_range, beq_iff_eq, decide_eq_true_eq]
  constructor
  · rintro ⟨i, hi, rfl⟩
    rw [List.getD_eq_getElem?_getD, List.getElem?_eq_getElem hi]
    exact List.getElem_mem hi
  · intro h
    obtain ⟨i, hi, rfl⟩ := List.mem_iff_getElem.1 h
    exact ⟨i, hi, by rw [List.getD_eq_getElem?_getD, List.getElem?_eq_getElem hi]; rfl⟩
theorem leaf_w {s : Spend} {leaf : Int} (h : okS s = true) (h1 : ¬ (leaf < fromS s ∨ toS s ≤ leaf)) : 0 ≤ IntKind.wrap .i64 (leaf - fromS s) ∧ IntKind.wrap .i64 (leaf - fromS s) < s.nl ∧ Int.toNat (IntKind.wrap .i64 (leaf - fromS s)) = leafN s leaf := by
  obtain ⟨_, _, _, _, hn⟩ := okS_all h
  have hb := fromS_bnd s
  have hz : toS s ≤ 2000 := by
    have := okS_nl h
    omega
  rw [wI (by omega) (by omega)]
  exact ⟨by omega, by omega, rfl⟩
theorem sec_1 {b : Bas} {s t : Spend} {leaf : Int} (h : validB b = false ∨ okS s = false ∨ okS t = false) : secR b s t leaf = (0, 1) := by
  unfold secR; grind
theorem sec_2 {b : Bas} {s t : Spend} {leaf : Int} (h : validB b = true ∧ okS s = true ∧ okS t = true) (h1 : leaf < fromS s ∨ toS s ≤ leaf) : secR b s t leaf = (0, 2) := by
  unfold secR; grind
theorem sec_3 {b : Bas} {s t : Spend} {leaf : Int} (h : validB b = true ∧ okS s = true ∧ okS t = true) (h1 : ¬ (leaf < fromS s ∨ toS s ≤ leaf)) (h2 : ¬ leaf ∈ sharedL s t) : secR b s t leaf = (0, 7) := by
  rw [shared_has h.2.1 h1] at h2
  unfold secR; grind
theorem sec_4 {b : Bas} {s t : Spend} {leaf : Int} (h : validB b = true ∧ okS s = true ∧ okS t = true) (h1 : ¬ (leaf < fromS s ∨ toS s ≤ leaf)) (h2 : leaf ∈ sharedL s t)
    (h3 : scB b (s.lf (leafN s leaf) 1) = false ∨ scB b (s.lf (leafN s leaf) 2) = false ∨ scB b (t.lf (mateS s t (leafN s leaf)) 1) = false ∨ scB b (t.lf (mateS s t (leafN s leaf)) 2) = false) : secR b s t leaf = (0, 2) := by
  rw [shared_has h.2.1 h1] at h2
  unfold secR; grind
theorem sec_5 {b : Bas} {s t : Spend} {leaf : Int} (h : validB b = true ∧ okS s = true ∧ okS t = true) (h1 : ¬ (leaf < fromS s ∨ toS s ≤ leaf)) (h2 : leaf ∈ sharedL s t)
    (h3 : scB b (s.lf (leafN s leaf) 1) = true ∧ scB b (s.lf (leafN s leaf) 2) = true ∧ scB b (t.lf (mateS s t (leafN s leaf)) 1) = true ∧ scB b (t.lf (mateS s t (leafN s leaf)) 2) = true) (h4 : chS b s = chS b t) : secR b s t leaf = (0, 20) := by
  rw [shared_has h.2.1 h1] at h2
  unfold secR; grind
theorem sec_6 {b : Bas} {s t : Spend} {leaf : Int} (h : validB b = true ∧ okS s = true ∧ okS t = true) (h1 : ¬ (leaf < fromS s ∨ toS s ≤ leaf)) (h2 : leaf ∈ sharedL s t)
    (h3 : scB b (s.lf (leafN s leaf) 1) = true ∧ scB b (s.lf (leafN s leaf) 2) = true ∧ scB b (t.lf (mateS s t (leafN s leaf)) 1) = true ∧ scB b (t.lf (mateS s t (leafN s leaf)) 2) = true) (h4 : ¬ chS b s = chS b t)
    (h5 : s.lf (leafN s leaf) 2 = t.lf (mateS s t (leafN s leaf)) 2) : secR b s t leaf = (0, 10) := by
  rw [shared_has h.2.1 h1] at h2
  unfold secR; grind
theorem sec_7 {b : Bas} {s t : Spend} {leaf : Int} (h : validB b = true ∧ okS s = true ∧ okS t = true) (h1 : ¬ (leaf < fromS s ∨ toS s ≤ leaf)) (h2 : leaf ∈ sharedL s t)
    (h3 : scB b (s.lf (leafN s leaf) 1) = true ∧ scB b (s.lf (leafN s leaf) 2) = true ∧ scB b (t.lf (mateS s t (leafN s leaf)) 1) = true ∧ scB b (t.lf (mateS s t (leafN s leaf)) 2) = true) (h4 : ¬ chS b s = chS b t)
    (h5 : ¬ s.lf (leafN s leaf) 2 = t.lf (mateS s t (leafN s leaf)) 2) : secR b s t leaf = ((s.lf (leafN s leaf) 1 - t.lf (mateS s t (leafN s leaf)) 1) % b.gr.q * invF ((s.lf (leafN s leaf) 2 - t.lf (mateS s t (leafN s leaf)) 2) % b.gr.q) b.gr.q % b.gr.q, 0) := by
  rw [shared_has h.2.1 h1] at h2
  unfold secR
  rw [if_neg (by simp [h]), if_neg h1, if_neg (by simp [h2]), if_neg (by simp [h3]), if_neg h4, if_neg h5]
theorem scB_t {b : Bas} {x : Int} (h : scB b x = true) : 0 ≤ x ∧ x < b.gr.q := by
  unfold scB at h
  simpa using h
theorem sub_q {x y q : Int} (hx : 0 ≤ x ∧ x < q) (hy : 0 ≤ y ∧ y < q) (hq : q < 2305843009213693952) : Int.tmod (IntKind.wrap .i64 (IntKind.wrap .i64 (x - y) + q)) q = (x - y) % q ∧ 0 ≤ (x - y) % q ∧ (x - y) % q < q := by
  rw [wI (n := x - y) (by omega) (by omega), wI (by omega) (by omega), tmod_nn (by omega), Int.add_emod_right]
  exact ⟨rfl, Int.emod_nonneg _ (by omega), Int.emod_lt_of_pos _ (by omega)⟩
theorem chS_of {b : Bas} {s : Spend} (h : validB b = true) (h' : okS s = true) : chalE b s.coin s.level s.index s.cxt = 0 ∧ chalK b s.coin s.level s.index s.cxt = chS b s :=
  have h2 := okS_all h'
  chal_3 h ⟨h2.1, h2.2.1⟩
theorem sharedL_len (s t : Spend) : (sharedL s t).length ≤ s.nl := by
  unfold sharedL
  split
  · exact Nat.zero_le _
  · exact sharedN_len _ _ _
theorem or4 {A B C D : Prop} (h : ((A ∨ B) ∨ C) ∨ D) : A ∨ B ∨ C ∨ D := by rcases h with ((h | h) | h) | h <;> simp [h]
theorem and4 {A B C D : Prop} (h : ((A ∧ B) ∧ C) ∧ D) : A ∧ B ∧ C ∧ D := ⟨h.1.1.1, h.1.1.2, h.1.2, h.2⟩
theorem sub_r {x y q : Int} (hx : 0 ≤ x ∧ x < q) (hy : 0 ≤ y ∧ y < q) (hq : q < 2305843009213693952) : Int.tmod (IntKind.wrap .i64 (IntKind.wrap .i64 (x + q) - y)) q = (x - y) % q ∧ 0 ≤ (x - y) % q ∧ (x - y) % q < q := by
  rw [wI (n := x + q) (by omega) (by omega), wI (by omega) (by omega), tmod_nn (by omega), show x + q - y = (x - y) + q by omega, Int.add_emod_right]
  exact ⟨rfl, Int.emod_nonneg _ (by omega), Int.emod_lt_of_pos _ (by omega)⟩
/-- The index of a leaf's partner. -/
def partI (s t : Spend) (i : Nat) : Int := if s.a = t.a then firstI (fun k => t.lf k 0 == s.lf i 0) t.nl 0 else -1
theorem part_has {s t : Spend} {leaf : Int} (h : okS s = true) (h1 : ¬ (leaf < fromS s ∨ toS s ≤ leaf)) : ¬ partI s t (leafN s leaf) < 0 ↔ leaf ∈ sharedL s t := by
  rw [shared_has h h1]
  unfold partI found
  by_cases ha : s.a = t.a
  · rw [if_pos ha]; simp [ha]
  · rw [if_neg ha]; simp [ha]
theorem part_mate {s t : Spend} {i : Nat} (h : ¬ partI s t i < 0) : partI s t i = mateS s t i ∧ mateS s t i < t.nl := by
  unfold partI at h ⊢
  by_cases ha : s.a = t.a
  · rw [if_pos ha] at h ⊢
    have := mate_lt (s := s) (t := t) (i := i) (decide_eq_true (by omega))
    exact ⟨this.2, this.1⟩
  · rw [if_neg ha] at h
    omega
theorem leaf_r {s : Spend} {leaf : Int} (h : okS s = true) (hl : leaf ≤ 9223372036854775807) : ((leaf < 0 ∨ IntKind.wrap .i64 (leaf - fromS s) < 0) ∨ IntKind.wrap .i64 (leaf - fromS s) ≥ s.nl) ↔ (leaf < fromS s ∨ toS s ≤ leaf) := by
  obtain ⟨_, _, _, _, hn⟩ := okS_all h
  have hb := fromS_bnd s
  by_cases h0 : leaf < 0
  · constructor
    · intro _; left; omega
    · intro _; left; left; exact h0
  · rw [wI (by omega) (by omega)]
    omega
theorem sec_k {s t : Spend} {leaf : Int} (h : okS s = true) (hl : leaf ≤ 9223372036854775807) (h6 : (¬ leaf < 0 ∧ ¬ IntKind.wrap .i64 (leaf - fromS s) < 0) ∧ ¬ IntKind.wrap .i64 (leaf - fromS s) ≥ s.nl)
    (h9 : ¬ partI s t (Int.toNat (IntKind.wrap .i64 (leaf - fromS s))) < 0) : ¬ (leaf < fromS s ∨ toS s ≤ leaf) ∧ leaf ∈ sharedL s t ∧ Int.toNat (IntKind.wrap .i64 (leaf - fromS s)) = leafN s leaf ∧
    Int.toNat (partI s t (leafN s leaf)) = mateS s t (leafN s leaf) ∧ 0 ≤ partI s t (leafN s leaf) ∧ partI s t (leafN s leaf) < t.nl := by
  have nl : ¬ (leaf < fromS s ∨ toS s ≤ leaf) := fun hh => by
    have := (leaf_r h hl).2 hh
    omega
  have e := (leaf_w h nl).2.2
  rw [e] at h9
  have pm := part_mate h9
  exact ⟨nl, (part_has h nl).1 h9, e, by rw [pm.1, Int.toNat_natCast], by omega, by omega⟩
/-- The chapter's example. -/
def exX : Spend := { Spend.zero with a := 8, nl := 1, lf := fun _ k => [4, 4, 9].getD k 0 }
def exY (n : Int) : Spend := { Spend.zero with a := 8, number := n, nl := 1, lf := fun _ k => [4, 6, 1].getD k 0 }
def exB : Bas := ⟨⟨23, 11, 4⟩, 2, 3, 6⟩
theorem exB_ok : validB exB = true := by decide +kernel
theorem exX_ok : okS exX = true := by decide +kernel
theorem exY_ok {n : Int} (h0 : 0 ≤ n) (h1 : n ≤ 1000) : okS (exY n) = true := by
  have e : okS (exY n) = (!(decide (n < 0) || decide (n > 1073741824))) := by
    unfold okS
    have a : spanE (exY n).depth (exY n).level (exY n).index = 0 := by show spanE 0 0 0 = 0; decide
    have c : spanZ (exY n).depth (exY n).level (exY n).index = 1 := by show spanZ 0 0 0 = 1; decide
    have d : spanA (exY n).depth (exY n).level (exY n).index = 0 := by show spanA 0 0 0 = 0; decide
    rw [a, c, d]
    rfl
  rw [e]
  simp; omega
theorem ex_by : exX.By := ⟨fun _ _ => by show (0 : Int) ≤ 0 ∧ (0 : Int) < 256; decide, fun _ _ => by show (0 : Int) ≤ 0 ∧ (0 : Int) < 256; decide⟩
theorem ey_by (n : Int) : (exY n).By := ⟨fun _ _ => by show (0 : Int) ≤ 0 ∧ (0 : Int) < 256; decide, fun _ _ => by show (0 : Int) ≤ 0 ∧ (0 : Int) < 256; decide⟩
theorem ex_shared (n : Int) : sharedL exX (exY n) = [0] := rfl
theorem ex_w : exB.gr.W := ⟨by decide, by decide⟩
theorem ex_secR {n : Int} (h0 : 0 ≤ n) (h1 : n ≤ 1000) (h : ¬ chS exB exX = chS exB (exY n)) : secR exB exX (exY n) 0 = (8, 0) := by
  have hf : fromS exX = 0 := by decide +kernel
  have ht : toS exX = 1 := by decide +kernel
  have hm : (0 : Int) ∈ sharedL exX (exY n) := by rw [ex_shared]; simp
  have hl : leafN exX 0 = 0 := by unfold leafN; rw [hf]; rfl
  have hk : mateS exX (exY n) 0 = 0 := rfl
  rw [sec_7 ⟨exB_ok, exX_ok, exY_ok h0 h1⟩ (by omega) hm (by rw [hl, hk]; exact ⟨rfl, rfl, rfl, rfl⟩) h (by rw [hl, hk]; show ¬ (9 : Int) = 1; decide), hl, hk]
  have hi : invF 8 11 = 7 := invF_eq (by decide) (by decide)
  show ((4 - 6 : Int) % 11 * invF ((9 - 1) % 11) 11 % 11, (0 : Int)) = (8, 0)
  rw [show ((9 - 1 : Int) % 11) = 8 by decide, hi]
  rfl
theorem exX_ent {os : List (Option Ob)} : EntL os (Spend.cw exX (.isl 3 1 fun r k => atL (List.getD [[.int .i64 4, .int .i64 4, .int .i64 9]] r []) k) .nsl) exX.cells :=
  cw_ent exX (Ent.rows fun i hi => by
    obtain rfl : i = 0 := Nat.lt_one_iff.1 hi
    rfl) Ent.nsl
theorem exY_ent {os : List (Option Ob)} (n : Int) : EntL os (Spend.cw (exY n) (.isl 3 1 fun r k => atL (List.getD [[.int .i64 4, .int .i64 6, .int .i64 1]] r []) k) .nsl) (exY n).cells :=
  cw_ent (exY n) (Ent.rows fun i hi => by
    obtain rfl : i = 0 := Nat.lt_one_iff.1 hi
    rfl) Ent.nsl
theorem few_nl {s t : Spend} (h : fewB s = true ∧ fewB t = true) : s.nl ≤ 1000 ∧ t.nl ≤ 1000 := by
  simp [fewB] at h
  omega
def sharedM (a b : Spend) (x : Nat) : List Int := ((List.range x).filter fun i => decide (partI a b i ≥ 0)).map fun (i : Nat) => fromS a + (i : Int)
theorem sharedM_t {a b : Spend} {x : Nat} (hx : x ≤ 1000) (h : partI a b x ≥ 0) : sharedM a b (x + 1) = sharedM a b x ++ [IntKind.wrap .i64 (fromS a + x)] := by
  have := fromS_bnd a
  rw [wI (by omega) (by omega)]
  simp [sharedM, List.range_succ, List.filter_append, h]
theorem sharedM_f {a b : Spend} {x : Nat} (h : ¬ partI a b x ≥ 0) : sharedM a b (x + 1) = sharedM a b x := by
  simp [sharedM, List.range_succ, List.filter_append, h]
theorem sharedM_lt {a b : Spend} {x : Nat} (hx : x ≤ 1000) (h : partI a b x ≥ 0) : (sharedM a b x).length + 1 = (sharedM a b (x + 1)).length := by rw [sharedM_t hx h]; simp
theorem sharedM_lf {a b : Spend} {x : Nat} (h : ¬ partI a b x ≥ 0) : (sharedM a b x).length = (sharedM a b (x + 1)).length := by rw [sharedM_f h]
theorem sharedM_len (a b : Spend) (x : Nat) : (sharedM a b x).length ≤ x := by
  unfold sharedM
  rw [List.length_map]
  have := List.length_filter_le (fun i => decide (partI a b i ≥ 0)) (List.range x)
  simpa using this
theorem sharedM_end {a b : Spend} {x : Nat} (h : okS a = true ∧ okS b = true) (hx : x = a.nl) : sharedM a b x = bif okS a && okS b then sharedL a b else [] := by
  subst hx
  rw [h.1, h.2]
  show sharedM a b a.nl = sharedL a b
  unfold sharedM sharedL sharedN
  by_cases e : a.a = b.a
  · rw [if_neg (by simp [e])]
    congr 1
    refine List.filter_congr fun i _ => ?_
    unfold partI found
    rw [if_pos e]
  · rw [if_pos e]
    have : (List.range a.nl).filter (fun i => decide (partI a b i ≥ 0)) = [] := List.filter_eq_nil_iff.2 fun i _ => by
      unfold partI
      rw [if_neg e]
      decide
    rw [this]
    rfl
theorem sharedM_same {os : List (Option Ob)} {a b : Spend} {x : Nat} (h : ¬ partI a b x ≥ 0) : ObEnt os ⟨1, (sharedM a b x).length, true, .fn (ilF .i64 (sharedM a b x))⟩ ⟨1, (sharedM a b (x + 1)).length, true, .fn (ilF .i64 (sharedM a b (x + 1)))⟩ := by
  rw [sharedM_f h]; exact .refl _
theorem not_ok2 {a b : Spend} (h : okS a = false ∨ okS b = false) : (okS a && okS b) = false := by rcases h with h | h <;> simp [h]
theorem yes_ok2 {a b : Spend} (h : okS a = true ∧ okS b = true) : (okS a && okS b) = true := by simp [h]
theorem shl_lt {a b : Spend} (h : a.nl ≤ 1000) : (bif okS a && okS b then sharedL a b else []).length < 9223372036854775808 := by
  have := sharedL_len a b
  cases okS a && okS b with
  | true => simp only [cond_true]; omega
  | false => simp
end Go.Sp

namespace Go.Proofs.YtmhipmiacghgeaaGreatDoor
open Go Go.Am Go.Sp
set_option maxRecDepth 100000

theorem chall_c (b : Bas) (c : Coin) (l i : Int) (x : Cxt) (hw : b.gr.W) (hr : byB c.root 32) (hp : byB x.payee 32) : Pure Tryz.prog gl0 59 [b.av, c.av, .agg [.int .i64 l, .int .i64 i], x.av] (.tup [.int .i64 (chalK b c l i x), .int .i64 (chalE b c l i x)]) := by
  have hc := fun h h' => chal_c b c l i x hr hp h h'
  have hx := context_c x
  have hv := bvalid_c b hw
  refine pure_sk (own := ow0) Tryz.func59 (by kernel_rfl) mixed (by kernel_rfl)
    (.sc (true) 35 ([AV.agg (Bas.cells b)]) (AV.bool (validB b)) (.br (!validB b) (.out (AV.tup [Zi 0, Zi 1]) [] (AV.tup [Zi (chalK b c l i x), Zi (chalE b c l i x)]) []) (.sc (true) 44 ([Zi c.4, AV.agg [Zi l, Zi i]]) (AV.bool (nodeB c.4 l i)) (.sc ((!nodeB c.4 l i) == false) 107 ([AV.agg (u8c x.1 ++ [Zi x.2, Zi x.3])]) (AV.bool (ctxB (Cxt.time x) (Cxt.number x))) (.br (!nodeB c.4 l i || !ctxB x.2 x.3) (.out (AV.tup [Zi 0, Zi 2]) [] (AV.tup [Zi (chalK b c l i x), Zi (chalE b c l i x)]) []) (.sc (true) 108 ([AV.agg (Bas.cells b), AV.agg (Coin.cells c), AV.agg [Zi l, Zi i], AV.agg (u8c x.1 ++ [Zi x.2, Zi x.3])]) (Zi (chalN (Grp.q (Bas.gr b)) c l i x)) (.out (AV.tup [Zi (chalN (Bas.gr b).2 c l i x), Zi 0]) [] (AV.tup [Zi (chalK b c l i x), Zi (chalE b c l i x)]) [])))))))
    (by kernel_rfl) ?_
  refine k_sc (hv) ?_
  refine k_br (fun h1 => ?_) (fun h1 => ?_)
  · have g1 := (cnd_not_t cnd_id_f) h1
    exact k_out (Ent.of_eq (by rw [(chal_1 g1).1, (chal_1 g1).2]))
  · have g1 := (cnd_not_f cnd_id_t) h1
    refine k_sc (node_c (c.4) (l) (i)) ?_
    refine k_scg (fun h4 => hx) ?_
    refine k_br (fun h5 => ?_) (fun h5 => ?_)
    · have g5 := (cnd_or_t (cnd_not_t cnd_id_f) (cnd_not_t cnd_id_f)) h5
      exact k_out (Ent.of_eq (by rw [(chal_2 g1 g5).1, (chal_2 g1 g5).2]))
    · have g5 := (cnd_or_f (cnd_not_f cnd_id_t) (cnd_not_f cnd_id_t)) h5
      refine k_sc (hc ((validB_q g1).1) ((validB_q g1).2)) ?_
      exact k_out (Ent.of_eq (by rw [(chal_3 g1 g5).1, (chal_3 g1 g5).2]))

theorem indexN_c (l : List Int) (v : Int) (hn : l.length < 9223372036854775808) : Pure Tryz.prog gl0 104 [il .i64 l, .int .i64 v] (.int .i64 (firstI (fun i => l.getD i 0 == v) l.length 0)) := by
  refine pure_sk (own := ow0) Tryz.func104 (by kernel_rfl) mixed (by kernel_rfl)
    (.loop ({ x : Nat // x ≤ List.length l ∧ (fun (i : Nat) => firstI (fun (i : Nat) => List.getD l i (0 : Int) == v) (List.length l) (0 : Nat) = firstI (fun (i : Nat) => List.getD l i (0 : Int) == v) (List.length l - i) i) x }) (fun (x : { x : Nat // x ≤ List.length l ∧ (fun (i : Nat) => firstI (fun (i : Nat) => List.getD l i (0 : Int) == v) (List.length l) (0 : Nat) = firstI (fun (i : Nat) => List.getD l i (0 : Int) == v) (List.length l - i) i) x }) => mkSt [0, 1, 7, 8] [AV.isl (1) (List.length l) fun (i x : Nat) => Zi (List.getD l i (0 : Int)), Zi v, Zi (↑(List.length l) : Int), Zi (↑(Subtype.val x) : Int)] []) (fun (x : { x : Nat // x ≤ List.length l ∧ (fun (i : Nat) => firstI (fun (i : Nat) => List.getD l i (0 : Int) == v) (List.length l) (0 : Nat) = firstI (fun (i : Nat) => List.getD l i (0 : Int) == v) (List.length l - i) i) x }) => List.length l - Subtype.val x) (⟨(0 : Nat), ⟨Nat.zero_le (List.length l), rfl⟩⟩) ([0, 1, 7, 8]) ([]) ([AV.isl (1) (List.length l) fun (i x : Nat) => Zi (List.getD l i (0 : Int)), Zi v, Zi (↑(List.length l) : Int), Zi 0]) ([]) (fun x0 => (.br (decide ((↑x0.1 : Int) < (↑(List.length l) : Int))) (.req ((0 : Int) ≤ (↑x0.1 : Int) ∧ (↑x0.1 : Int) < (↑(List.length l) : Int)) (.br (v == List.getD l (Int.toNat (↑x0.1 : Int)) (0 : Int)) (.out (Zi (↑x0.1 : Int)) [] (Zi (firstI (fun (i : Nat) => List.getD l i (0 : Int) == v) (List.length l) (0 : Nat))) []) (.again (Again (0) (fun (x : { x : Nat // x ≤ List.length l ∧ (fun (i : Nat) => firstI (fun (i : Nat) => List.getD l i (0 : Int) == v) (List.length l) (0 : Nat) = firstI (fun (i : Nat) => List.getD l i (0 : Int) == v) (List.length l - i) i) x }) => mkSt [0, 1, 7, 8] [AV.isl (1) (List.length l) fun (i x : Nat) => Zi (List.getD l i (0 : Int)), Zi v, Zi (↑(List.length l) : Int), Zi (↑(Subtype.val x) : Int)] []) (fun (x : { x : Nat // x ≤ List.length l ∧ (fun (i : Nat) => firstI (fun (i : Nat) => List.getD l i (0 : Int) == v) (List.length l) (0 : Nat) = firstI (fun (i : Nat) => List.getD l i (0 : Int) == v) (List.length l - i) i) x }) => List.length l - Subtype.val x) x0) ([0, 1, 7, 8]) ([]) ([AV.isl (1) (List.length l) fun (i x : Nat) => Zi (List.getD l i (0 : Int)), Zi v, Zi (↑(List.length l) : Int), Zi (IntKind.wrap IntKind.i64 ((↑x0.1 : Int) + (1 : Int)))]) ([])))) (.out (Zi (-1)) [] (Zi (firstI (fun (i : Nat) => List.getD l i (0 : Int) == v) (List.length l) (0 : Nat))) []))))
    (by kernel_rfl) ?_
  --LOOPINFO kept [0, 1, 7] changed [8] objects []
  refine k_loop (fun _ hs => hs.le (by repeat' (first | exact trivial | (first | exact Ent.refl _ | exact inc_ent (by omega) | exact Ent.nil rfl | exact Ent.of_eq (congrArg (AV.osl _ _ _) (by first | omega | (dsimp only; omega))) | exact Ent.of_eq (congrArg (AV.int _) (by first | omega | (dsimp only; omega)))) | refine And.intro ?_ ?_)) (trivial)) (fun x0 => ?_)
  try (have q0 := x0.2; dsimp only at q0)
  refine k_br (fun h1 => ?_) (fun h1 => ?_)
  · have g1 := cnd_dec_t h1
    refine k_req (by first | omega | (simp only [Int.toNat_natCast]; omega)) ?_
    refine k_br (fun h3 => ?_) (fun h3 => ?_)
    · have g3 := cnd_beq_t h3
      try simp only [Int.toNat_natCast] at g3
      exact k_out (Ent.of_eq (congrArg _ (first_hit x0.2.2 (by omega) (by simp only [beq_iff_eq]; exact g3.symm))))
    · have g3 := cnd_beq_f h3
      try simp only [Int.toNat_natCast] at g3
      exact k_again (⟨x0.1 + 1, by omega, first_next x0.2.2 (by omega) (by simp only [beq_eq_false_iff_ne]; exact fun e => g3 e.symm)⟩) (fun _ hs => hs.le (by repeat' (first | exact trivial | (first | exact Ent.refl _ | exact inc_ent (by omega) | exact Ent.nil rfl | exact Ent.of_eq (congrArg (AV.osl _ _ _) (by first | omega | (dsimp only; omega))) | exact Ent.of_eq (congrArg (AV.int _) (by first | omega | (dsimp only; omega)))) | refine And.intro ?_ ?_)) (trivial)) (by first | omega | (dsimp only; omega) | (simp; omega))
  · have g1 := cnd_dec_f h1
    exact k_out (Ent.of_eq (congrArg _ (first_miss x0.2.2 (by omega))))

theorem containsN_c (l : List Int) (v : Int) (hn : l.length < 9223372036854775808) : Pure Tryz.prog gl0 55 [il .i64 l, .int .i64 v] (.bool (decide (v ∈ l))) := by
  refine pure_sk (own := ow0) Tryz.func55 (by kernel_rfl) mixed (by kernel_rfl)
    (.sc (true) 104 ([AV.isl (1) (List.length l) fun (i x : Nat) => Zi (List.getD l i (0 : Int)), Zi v]) (Zi (firstI (fun (i : Nat) => List.getD l i (0 : Int) == v) (List.length l) (0 : Nat))) (.out (AV.bool (decide (firstI (fun (i : Nat) => List.getD l i (0 : Int) == v) (List.length l) (0) ≥ (0 : Int)))) [] (AV.bool (decide (v ∈ l))) []))
    (by kernel_rfl) ?_
  refine k_sc (indexN_c (l) (v) (by first | assumption | omega)) ?_
  exact k_out (Ent.of_eq (congrArg _ first_mem))

theorem equalN_c (l : List Int) (hn : l.length < 9223372036854775808) : Pure Tryz.prog gl0 51 [il .i64 l, il .i64 l] (.bool true) := by
  refine pure_sk (own := ow0) Tryz.func51 (by kernel_rfl) mixed (by kernel_rfl)
    (.br ((↑(List.length l) : Int) != (↑(List.length l) : Int)) (.out (AV.bool false) [] (AV.bool true) []) (.loop ({ x : Nat // x ≤ List.length l }) (fun (x : { x : Nat // x ≤ List.length l }) => mkSt [0, 1, 12, 13] [AV.isl (1) (List.length l) fun (i x : Nat) => Zi (List.getD l i (0 : Int)), AV.isl (1) (List.length l) fun (i x : Nat) => Zi (List.getD l i (0 : Int)), Zi (↑(List.length l) : Int), Zi (↑(Subtype.val x) : Int)] []) (fun (x : { x : Nat // x ≤ List.length l }) => List.length l - Subtype.val x) (⟨(0 : Nat), Nat.zero_le (List.length l)⟩) ([0, 1, 12, 13]) ([]) ([AV.isl (1) (List.length l) fun (i x : Nat) => Zi (List.getD l i (0 : Int)), AV.isl (1) (List.length l) fun (i x : Nat) => Zi (List.getD l i (0 : Int)), Zi (↑(List.length l) : Int), Zi 0]) ([]) (fun x2 => (.br (decide ((↑x2.1 : Int) < (↑(List.length l) : Int))) (.req ((0 : Int) ≤ (↑x2.1 : Int) ∧ (↑x2.1 : Int) < (↑(List.length l) : Int)) (.req ((0 : Int) ≤ (↑x2.1 : Int) ∧ (↑x2.1 : Int) < (↑(List.length l) : Int)) (.br (List.getD l (Int.toNat (↑x2.1 : Int)) (0 : Int) != List.getD l (Int.toNat (↑x2.1 : Int)) (0 : Int)) (.out (AV.bool false) [] (AV.bool true) []) (.again (Again (0) (fun (x : { x : Nat // x ≤ List.length l }) => mkSt [0, 1, 12, 13] [AV.isl (1) (List.length l) fun (i x : Nat) => Zi (List.getD l i (0 : Int)), AV.isl (1) (List.length l) fun (i x : Nat) => Zi (List.getD l i (0 : Int)), Zi (↑(List.length l) : Int), Zi (↑(Subtype.val x) : Int)] []) (fun (x : { x : Nat // x ≤ List.length l }) => List.length l - Subtype.val x) x2) ([0, 1, 12, 13]) ([]) ([AV.isl (1) (List.length l) fun (i x : Nat) => Zi (List.getD l i (0 : Int)), AV.isl (1) (List.length l) fun (i x : Nat) => Zi (List.getD l i (0 : Int)), Zi (↑(List.length l) : Int), Zi (IntKind.wrap IntKind.i64 ((↑x2.1 : Int) + (1 : Int)))]) ([]))))) (.out (AV.bool true) [] (AV.bool true) [])))))
    (by kernel_rfl) ?_
  refine k_br (fun h0 => ?_) (fun h0 => ?_)
  · have g0 := cnd_bne_t h0
    exact k_out (Ent.of_eq (by first | rfl | simp_all))
  · have g0 := cnd_bne_f h0
    --LOOPINFO kept [0, 1, 12] changed [13] objects []
    refine k_loop (fun _ hs => hs.le (by repeat' (first | exact trivial | (first | exact Ent.refl _ | exact inc_ent (by omega) | exact Ent.nil rfl | exact Ent.of_eq (congrArg (AV.osl _ _ _) (by first | omega | (dsimp only; omega))) | exact Ent.of_eq (congrArg (AV.int _) (by first | omega | (dsimp only; omega)))) | refine And.intro ?_ ?_)) (trivial)) (fun x2 => ?_)
    try (have q2 := x2.2; dsimp only at q2)
    refine k_br (fun h3 => ?_) (fun h3 => ?_)
    · have g3 := cnd_dec_t h3
      refine k_req (by first | omega | (simp only [Int.toNat_natCast]; omega)) ?_
      refine k_req (by first | omega | (simp only [Int.toNat_natCast]; omega)) ?_
      refine k_br (fun h6 => ?_) (fun h6 => ?_)
      · have g6 := cnd_bne_t h6
        try simp only [Int.toNat_natCast] at g6
        exact k_out (Ent.of_eq (by first | rfl | simp_all))
      · have g6 := cnd_bne_f h6
        try simp only [Int.toNat_natCast] at g6
        exact k_again (⟨x2.1 + 1, by omega⟩) (fun _ hs => hs.le (by repeat' (first | exact trivial | (first | exact Ent.refl _ | exact inc_ent (by omega) | exact Ent.nil rfl | exact Ent.of_eq (congrArg (AV.osl _ _ _) (by first | omega | (dsimp only; omega))) | exact Ent.of_eq (congrArg (AV.int _) (by first | omega | (dsimp only; omega)))) | refine And.intro ?_ ?_)) (trivial)) (by first | omega | (dsimp only; omega) | (simp; omega))
    · have g3 := cnd_dec_f h3
      exact k_out (Ent.of_eq (by first | rfl | simp_all))

theorem xscalar_c (b : Bas) (x : Int) : Pure Tryz.prog gl0 58 [b.av, .int .i64 x] (.bool (scB b x)) := by
  refine pure_sk (own := ow0) Tryz.func58 (by kernel_rfl) mixed (by kernel_rfl)
    (.out (AV.bool (decide (x ≥ (0 : Int)) && decide (x < (Bas.gr b).2))) [] (AV.bool (scB b x)) [])
    (by kernel_rfl) ?_
  exact k_out (Ent.refl _)

theorem r33scalar_c (b : Bas) (x : Int) : Pure Tryz.prog gl0 65 [b.gr.av, .int .i64 x] (.bool (scB b x)) := by
  refine pure_sk (own := ow0) Tryz.func65 (by kernel_rfl) mixed (by kernel_rfl)
    (.out (AV.bool (decide (x ≥ (0 : Int)) && decide (x < (Bas.gr b).2))) [] (AV.bool (scB b x)) [])
    (by kernel_rfl) ?_
  exact k_out (Ent.refl _)

theorem xspan_f (s : Spend) : Pure Tryz.prog gl0 54 [s.av] (.tup [.int .i64 (fromS s), .int .i64 (toS s), .bool (okS s)]) := xspan_c s

theorem secret_c (b : Bas) (s t : Spend) (leaf : Int) (hw : b.gr.W) (hs : s.nl ≤ 1000) (ht : t.nl ≤ 1000) (bs : s.By) (bt : t.By) : Pure Tryz.prog gl0 19 [b.av, s.av, t.av, .int .i64 leaf] (.tup [.int .i64 (secR b s t leaf).1, .int .i64 (secR b s t leaf).2]) := by
  have c1 := bvalid_c b hw
  have c2 := formed2_c s t
  have c3 := chall_c b s.coin s.level s.index s.cxt hw bs.root bs.payee
  have c4 := chall_c b t.coin t.level t.index t.cxt hw bt.root bt.payee
  have c5 := xspan_f s
  have c6 := shared_c s t hs ht
  have c7 := fun v h => containsN_c (sharedL s t) v h
  have c8 := find_c t
  have c9 := xscalar_c b
  have sl := sharedL_len s t
  have L := fun h h' => leaf_w (s := s) (leaf := leaf) h h'
  have hq := fun h => validB_q (b := b) h
  have k1 := fun h h' => chS_of (b := b) (s := s) h h'
  have k2 := fun h h' => chS_of (b := b) (s := t) h h'
  refine pure_sk (own := ow0) Tryz.func19 (by kernel_rfl) mixed (by kernel_rfl)
    (.sc (true) 35 ([AV.agg (Bas.cells b)]) (AV.bool (validB b)) (.sc ((!validB b) == false) 53 ([AV.isl (80) (2) fun (r k : Nat) => atL (List.getD [Spend.cells s, Spend.cells t] (r + 0) []) k]) (AV.bool (okS s && okS t)) (.br (!validB b || !(okS s && okS t)) (.out (AV.tup [Zi 0, Zi 1]) [] (AV.tup [Zi (Prod.fst (secR b s t leaf)), Zi (Prod.snd (secR b s t leaf))]) []) (.sc (true) 54 ([AV.agg (Spend.cells s)]) (AV.tup [Zi (fromS s), Zi (toS s), AV.bool (okS s)]) (.br (decide (leaf < fromS s) || decide (leaf ≥ toS s)) (.out (AV.tup [Zi 0, Zi 2]) [] (AV.tup [Zi (Prod.fst (secR b s t leaf)), Zi (Prod.snd (secR b s t leaf))]) []) (.dc (true) 56 ([AV.agg (Spend.cells s), AV.agg (Spend.cells t)]) (il IntKind.i64 (sharedL s t)) (.sc (true) 55 ([AV.isl (1) (List.length (sharedL s t)) fun (i x : Nat) => Zi (List.getD (sharedL s t) i (0 : Int)), Zi leaf]) (AV.bool (decide (leaf ∈ sharedL s t))) (.br (!decide (leaf ∈ sharedL s t)) (.out (AV.tup [Zi 0, Zi 7]) [] (AV.tup [Zi (Prod.fst (secR b s t leaf)), Zi (Prod.snd (secR b s t leaf))]) []) (.req ((0 : Int) ≤ IntKind.wrap IntKind.i64 (leaf - fromS s) ∧ IntKind.wrap IntKind.i64 (leaf - fromS s) < (↑s.16 : Int)) (.sc (true) 57 ([AV.agg (Spend.cells t), Zi (s.17 (Int.toNat (IntKind.wrap IntKind.i64 (leaf - fromS s))) (0))]) (Zi (firstI (fun (i : Nat) => Spend.lf t i (0 : Nat) == s.17 (Int.toNat (IntKind.wrap IntKind.i64 (leaf - fromS s))) (0)) (Spend.nl t) (0 : Nat))) (.req ((0 : Int) ≤ firstI (fun (i : Nat) => t.17 i (0) == s.17 (Int.toNat (IntKind.wrap IntKind.i64 (leaf - fromS s))) (0)) t.16 (0) ∧ firstI (fun (i : Nat) => t.17 i (0) == s.17 (Int.toNat (IntKind.wrap IntKind.i64 (leaf - fromS s))) (0)) t.16 (0) < (↑t.16 : Int)) (.sc (true) 58 ([AV.agg (Bas.cells b), Zi (s.17 (Int.toNat (IntKind.wrap IntKind.i64 (leaf - fromS s))) (1))]) (AV.bool (scB b (s.17 (Int.toNat (IntKind.wrap IntKind.i64 (leaf - fromS s))) (1)))) (.sc ((!scB b (s.17 (Int.toNat (IntKind.wrap IntKind.i64 (leaf - fromS s))) (1))) == false) 58 ([AV.agg (Bas.cells b), Zi (s.17 (Int.toNat (IntKind.wrap IntKind.i64 (leaf - fromS s))) (2))]) (AV.bool (scB b (s.17 (Int.toNat (IntKind.wrap IntKind.i64 (leaf - fromS s))) (2)))) (.sc ((!scB b (s.17 (Int.toNat (IntKind.wrap IntKind.i64 (leaf - fromS s))) (1)) || !scB b (s.17 (Int.toNat (IntKind.wrap IntKind.i64 (leaf - fromS s))) (2))) == false) 58 ([AV.agg (Bas.cells b), Zi (t.17 (Int.toNat (firstI (fun (i : Nat) => t.17 i (0) == s.17 (Int.toNat (IntKind.wrap IntKind.i64 (leaf - fromS s))) (0)) t.16 (0))) (1))]) (AV.bool (scB b (t.17 (Int.toNat (firstI (fun (i : Nat) => t.17 i (0) == s.17 (Int.toNat (IntKind.wrap IntKind.i64 (leaf - fromS s))) (0)) t.16 (0))) (1)))) (.sc ((!scB b (s.17 (Int.toNat (IntKind.wrap IntKind.i64 (leaf - fromS s))) (1)) || !scB b (s.17 (Int.toNat (IntKind.wrap IntKind.i64 (leaf - fromS s))) (2)) || !scB b (t.17 (Int.toNat (firstI (fun (i : Nat) => t.17 i (0) == s.17 (Int.toNat (IntKind.wrap IntKind.i64 (leaf - fromS s))) (0)) t.16 (0))) (1))) == false) 58 ([AV.agg (Bas.cells b), Zi (t.17 (Int.toNat (firstI (fun (i : Nat) => t.17 i (0) == s.17 (Int.toNat (IntKind.wrap IntKind.i64 (leaf - fromS s))) (0)) t.16 (0))) (2))]) (AV.bool (scB b (t.17 (Int.toNat (firstI (fun (i : Nat) => t.17 i (0) == s.17 (Int.toNat (IntKind.wrap IntKind.i64 (leaf - fromS s))) (0)) t.16 (0))) (2)))) (.br (!scB b (s.17 (Int.toNat (IntKind.wrap IntKind.i64 (leaf - fromS s))) (1)) || !scB b (s.17 (Int.toNat (IntKind.wrap IntKind.i64 (leaf - fromS s))) (2)) || !scB b (t.17 (Int.toNat (firstI (fun (i : Nat) => t.17 i (0) == s.17 (Int.toNat (IntKind.wrap IntKind.i64 (leaf - fromS s))) (0)) t.16 (0))) (1)) || !scB b (t.17 (Int.toNat (firstI (fun (i : Nat) => t.17 i (0) == s.17 (Int.toNat (IntKind.wrap IntKind.i64 (leaf - fromS s))) (0)) t.16 (0))) (2))) (.out (AV.tup [Zi 0, Zi 2]) [] (AV.tup [Zi (Prod.fst (secR b s t leaf)), Zi (Prod.snd (secR b s t leaf))]) []) (.sc (true) 59 ([AV.agg (Bas.cells b), AV.agg (Zi s.1 :: Zi s.2 :: Zi s.3 :: Zi s.4 :: Zi s.5 :: (u8c s.6 ++ [Zi s.7, Zi s.8, Zi s.9, Zi s.10])), AV.agg [Zi s.11, Zi s.12], AV.agg (u8c s.13 ++ [Zi s.14, Zi s.15])]) (AV.tup [Zi (chalK b (Spend.coin s) (Spend.level s) (Spend.index s) (Spend.cxt s)), Zi (chalE b (Spend.coin s) (Spend.level s) (Spend.index s) (Spend.cxt s))]) (.sc (true) 59 ([AV.agg (Bas.cells b), AV.agg (Zi t.1 :: Zi t.2 :: Zi t.3 :: Zi t.4 :: Zi t.5 :: (u8c t.6 ++ [Zi t.7, Zi t.8, Zi t.9, Zi t.10])), AV.agg [Zi t.11, Zi t.12], AV.agg (u8c t.13 ++ [Zi t.14, Zi t.15])]) (AV.tup [Zi (chalK b (Spend.coin t) (Spend.level t) (Spend.index t) (Spend.cxt t)), Zi (chalE b (Spend.coin t) (Spend.level t) (Spend.index t) (Spend.cxt t))]) (.br (chalE b (Spend.coin s) s.11 s.12 (Spend.cxt s) != (0 : Int)) (.out (AV.tup [Zi 0, Zi (chalE b (Spend.coin s) s.11 s.12 (Spend.cxt s))]) [] (AV.tup [Zi (Prod.fst (secR b s t leaf)), Zi (Prod.snd (secR b s t leaf))]) []) (.br (chalE b (Spend.coin t) t.11 t.12 (Spend.cxt t) != (0 : Int)) (.out (AV.tup [Zi 0, Zi (chalE b (Spend.coin t) t.11 t.12 (Spend.cxt t))]) [] (AV.tup [Zi (Prod.fst (secR b s t leaf)), Zi (Prod.snd (secR b s t leaf))]) []) (.br (chalK b (Spend.coin s) s.11 s.12 (Spend.cxt s) == chalK b (Spend.coin t) t.11 t.12 (Spend.cxt t)) (.out (AV.tup [Zi 0, Zi 20]) [] (AV.tup [Zi (Prod.fst (secR b s t leaf)), Zi (Prod.snd (secR b s t leaf))]) []) (.br (s.17 (Int.toNat (IntKind.wrap IntKind.i64 (leaf - fromS s))) (2) == t.17 (Int.toNat (firstI (fun (i : Nat) => t.17 i (0) == s.17 (Int.toNat (IntKind.wrap IntKind.i64 (leaf - fromS s))) (0)) t.16 (0))) (2)) (.out (AV.tup [Zi 0, Zi 10]) [] (AV.tup [Zi (Prod.fst (secR b s t leaf)), Zi (Prod.snd (secR b s t leaf))]) []) (.req ((Bas.gr b).2 ≠ (0 : Int)) (.sc (true) 60 ([Zi (Int.tmod (IntKind.wrap IntKind.i64 (IntKind.wrap IntKind.i64 (s.17 (Int.toNat (IntKind.wrap IntKind.i64 (leaf - fromS s))) (2) - t.17 (Int.toNat (firstI (fun (i : Nat) => t.17 i (0) == s.17 (Int.toNat (IntKind.wrap IntKind.i64 (leaf - fromS s))) (0)) t.16 (0))) (2)) + (Bas.gr b).2)) (Bas.gr b).2), Zi (Bas.gr b).2]) (AV.tup [Zi (invF (Int.tmod (IntKind.wrap IntKind.i64 (IntKind.wrap IntKind.i64 (s.17 (Int.toNat (IntKind.wrap IntKind.i64 (leaf - fromS s))) (2) - t.17 (Int.toNat (firstI (fun (i : Nat) => t.17 i (0) == s.17 (Int.toNat (IntKind.wrap IntKind.i64 (leaf - fromS s))) (0)) t.16 (0))) (2)) + (Bas.gr b).2)) (Bas.gr b).2) (Bas.gr b).2), Zi (if Int.gcd (Int.tmod (IntKind.wrap IntKind.i64 (IntKind.wrap IntKind.i64 (s.17 (Int.toNat (IntKind.wrap IntKind.i64 (leaf - fromS s))) (2) - t.17 (Int.toNat (firstI (fun (i : Nat) => t.17 i (0) == s.17 (Int.toNat (IntKind.wrap IntKind.i64 (leaf - fromS s))) (0)) t.16 (0))) (2)) + (Bas.gr b).2)) (Bas.gr b).2) (Bas.gr b).2 = (1 : Nat) then (0 : Int) else (10 : Int))]) (.req ((Bas.gr b).2 ≠ (0 : Int)) (.sc (true) 61 ([Zi (Int.tmod (IntKind.wrap IntKind.i64 (IntKind.wrap IntKind.i64 (s.17 (Int.toNat (IntKind.wrap IntKind.i64 (leaf - fromS s))) (1) - t.17 (Int.toNat (firstI (fun (i : Nat) => t.17 i (0) == s.17 (Int.toNat (IntKind.wrap IntKind.i64 (leaf - fromS s))) (0)) t.16 (0))) (1)) + (Bas.gr b).2)) (Bas.gr b).2), Zi (invF (Int.tmod (IntKind.wrap IntKind.i64 (IntKind.wrap IntKind.i64 (s.17 (Int.toNat (IntKind.wrap IntKind.i64 (leaf - fromS s))) (2) - t.17 (Int.toNat (firstI (fun (i : Nat) => t.17 i (0) == s.17 (Int.toNat (IntKind.wrap IntKind.i64 (leaf - fromS s))) (0)) t.16 (0))) (2)) + (Bas.gr b).2)) (Bas.gr b).2) (Bas.gr b).2), Zi (Bas.gr b).2]) (AV.tup [Zi (okv (chkI (Int.tmod (IntKind.wrap IntKind.i64 (IntKind.wrap IntKind.i64 (s.17 (Int.toNat (IntKind.wrap IntKind.i64 (leaf - fromS s))) (1) - t.17 (Int.toNat (firstI (fun (i : Nat) => t.17 i (0) == s.17 (Int.toNat (IntKind.wrap IntKind.i64 (leaf - fromS s))) (0)) t.16 (0))) (1)) + (Bas.gr b).2)) (Bas.gr b).2) (invF (Int.tmod (IntKind.wrap IntKind.i64 (IntKind.wrap IntKind.i64 (s.17 (Int.toNat (IntKind.wrap IntKind.i64 (leaf - fromS s))) (2) - t.17 (Int.toNat (firstI (fun (i : Nat) => t.17 i (0) == s.17 (Int.toNat (IntKind.wrap IntKind.i64 (leaf - fromS s))) (0)) t.16 (0))) (2)) + (Bas.gr b).2)) (Bas.gr b).2) (Bas.gr b).2) (Bas.gr b).2) (Int.tmod (IntKind.wrap IntKind.i64 (IntKind.wrap IntKind.i64 (s.17 (Int.toNat (IntKind.wrap IntKind.i64 (leaf - fromS s))) (1) - t.17 (Int.toNat (firstI (fun (i : Nat) => t.17 i (0) == s.17 (Int.toNat (IntKind.wrap IntKind.i64 (leaf - fromS s))) (0)) t.16 (0))) (1)) + (Bas.gr b).2)) (Bas.gr b).2 * invF (Int.tmod (IntKind.wrap IntKind.i64 (IntKind.wrap IntKind.i64 (s.17 (Int.toNat (IntKind.wrap IntKind.i64 (leaf - fromS s))) (2) - t.17 (Int.toNat (firstI (fun (i : Nat) => t.17 i (0) == s.17 (Int.toNat (IntKind.wrap IntKind.i64 (leaf - fromS s))) (0)) t.16 (0))) (2)) + (Bas.gr b).2)) (Bas.gr b).2) (Bas.gr b).2 % (Bas.gr b).2)), Zi (chkI (Int.tmod (IntKind.wrap IntKind.i64 (IntKind.wrap IntKind.i64 (s.17 (Int.toNat (IntKind.wrap IntKind.i64 (leaf - fromS s))) (1) - t.17 (Int.toNat (firstI (fun (i : Nat) => t.17 i (0) == s.17 (Int.toNat (IntKind.wrap IntKind.i64 (leaf - fromS s))) (0)) t.16 (0))) (1)) + (Bas.gr b).2)) (Bas.gr b).2) (invF (Int.tmod (IntKind.wrap IntKind.i64 (IntKind.wrap IntKind.i64 (s.17 (Int.toNat (IntKind.wrap IntKind.i64 (leaf - fromS s))) (2) - t.17 (Int.toNat (firstI (fun (i : Nat) => t.17 i (0) == s.17 (Int.toNat (IntKind.wrap IntKind.i64 (leaf - fromS s))) (0)) t.16 (0))) (2)) + (Bas.gr b).2)) (Bas.gr b).2) (Bas.gr b).2) (Bas.gr b).2)]) (.out (AV.tup [Zi (okv (chkI (Int.tmod (IntKind.wrap IntKind.i64 (IntKind.wrap IntKind.i64 (s.17 (Int.toNat (IntKind.wrap IntKind.i64 (leaf - fromS s))) (1) - t.17 (Int.toNat (firstI (fun (i : Nat) => t.17 i (0) == s.17 (Int.toNat (IntKind.wrap IntKind.i64 (leaf - fromS s))) (0)) t.16 (0))) (1)) + (Bas.gr b).2)) (Bas.gr b).2) (invF (Int.tmod (IntKind.wrap IntKind.i64 (IntKind.wrap IntKind.i64 (s.17 (Int.toNat (IntKind.wrap IntKind.i64 (leaf - fromS s))) (2) - t.17 (Int.toNat (firstI (fun (i : Nat) => t.17 i (0) == s.17 (Int.toNat (IntKind.wrap IntKind.i64 (leaf - fromS s))) (0)) t.16 (0))) (2)) + (Bas.gr b).2)) (Bas.gr b).2) (Bas.gr b).2) (Bas.gr b).2) (Int.tmod (IntKind.wrap IntKind.i64 (IntKind.wrap IntKind.i64 (s.17 (Int.toNat (IntKind.wrap IntKind.i64 (leaf - fromS s))) (1) - t.17 (Int.toNat (firstI (fun (i : Nat) => t.17 i (0) == s.17 (Int.toNat (IntKind.wrap IntKind.i64 (leaf - fromS s))) (0)) t.16 (0))) (1)) + (Bas.gr b).2)) (Bas.gr b).2 * invF (Int.tmod (IntKind.wrap IntKind.i64 (IntKind.wrap IntKind.i64 (s.17 (Int.toNat (IntKind.wrap IntKind.i64 (leaf - fromS s))) (2) - t.17 (Int.toNat (firstI (fun (i : Nat) => t.17 i (0) == s.17 (Int.toNat (IntKind.wrap IntKind.i64 (leaf - fromS s))) (0)) t.16 (0))) (2)) + (Bas.gr b).2)) (Bas.gr b).2) (Bas.gr b).2 % (Bas.gr b).2)), Zi 0]) [] (AV.tup [Zi (Prod.fst (secR b s t leaf)), Zi (Prod.snd (secR b s t leaf))]) [])))))))))))))))))))))))))))
    (by kernel_rfl) ?_
  refine k_sc (c1) ?_
  refine k_scg (fun h1 => c2) ?_
  refine k_br (fun h2 => ?_) (fun h2 => ?_)
  · have g2 := (cnd_or_t (cnd_not_t cnd_id_f) (cnd_not_t (cnd_and_f cnd_id_f cnd_id_f))) h2
    exact k_out (Ent.of_eq (by rw [sec_1 g2]))
  · have g2 := (cnd_or_f (cnd_not_f cnd_id_t) (cnd_not_f (cnd_and_t cnd_id_t cnd_id_t))) h2
    refine k_sc (c5) ?_
    refine k_br (fun h5 => ?_) (fun h5 => ?_)
    · have g5 := (cnd_or_t cnd_dec_t cnd_dec_t) h5
      exact k_out (Ent.of_eq (by rw [sec_2 g2 g5]))
    · have g5 := (cnd_or_f cnd_dec_f cnd_dec_f) h5
      refine k_dc (c6) ?_
      refine k_sc (c7 (leaf) (by first | assumption | omega)) ?_
      refine k_br (fun h9 => ?_) (fun h9 => ?_)
      · have g9 := (cnd_not_t cnd_dec_f) h9
        exact k_out (Ent.of_eq (by rw [sec_3 g2 (by omega) g9]))
      · have g9 := (cnd_not_f cnd_dec_t) h9
        refine k_req (⟨(L g2.2.1 (by omega)).1, (L g2.2.1 (by omega)).2.1⟩) ?_
        refine k_sc (c8 (s.17 (Int.toNat (IntKind.wrap IntKind.i64 (leaf - fromS s))) (0)) (by first | assumption | omega)) ?_
        refine k_req (by have m := mate_lt ((shared_has g2.2.1 (by omega)).1 g9).2; rw [(L g2.2.1 (by omega)).2.2, m.2]; omega) ?_
        refine k_sc (c9 (s.17 (Int.toNat (IntKind.wrap IntKind.i64 (leaf - fromS s))) (1))) ?_
        refine k_scg (fun h15 => c9 (s.17 (Int.toNat (IntKind.wrap IntKind.i64 (leaf - fromS s))) (2))) ?_
        refine k_scg (fun h16 => c9 (t.17 (Int.toNat (firstI (fun (i : Nat) => t.17 i (0) == s.17 (Int.toNat (IntKind.wrap IntKind.i64 (leaf - fromS s))) (0)) t.16 (0))) (1))) ?_
        refine k_scg (fun h17 => c9 (t.17 (Int.toNat (firstI (fun (i : Nat) => t.17 i (0) == s.17 (Int.toNat (IntKind.wrap IntKind.i64 (leaf - fromS s))) (0)) t.16 (0))) (2))) ?_
        refine k_br (fun h18 => ?_) (fun h18 => ?_)
        · have g18 := (cnd_or_t (cnd_or_t (cnd_or_t (cnd_not_t cnd_id_f) (cnd_not_t cnd_id_f)) (cnd_not_t cnd_id_f)) (cnd_not_t cnd_id_f)) h18
          exact k_out (by rw [(L g2.2.1 (by omega)).2.2] at g18; exact Ent.of_eq (by rw [sec_4 g2 (by omega) g9 (or4 g18)]))
        · have g18 := (cnd_or_f (cnd_or_f (cnd_or_f (cnd_not_f cnd_id_t) (cnd_not_f cnd_id_t)) (cnd_not_f cnd_id_t)) (cnd_not_f cnd_id_t)) h18
          refine k_sc (c3) ?_
          refine k_sc (c4) ?_
          refine k_br (fun h22 => ?_) (fun h22 => ?_)
          · have g22 := cnd_bne_t h22
            exact k_out ((by exfalso; exact g22 (k1 g2.1 g2.2.1).1))
          · have g22 := cnd_bne_f h22
            refine k_br (fun h24 => ?_) (fun h24 => ?_)
            · have g24 := cnd_bne_t h24
              exact k_out ((by exfalso; exact g24 (k2 g2.1 g2.2.2).1))
            · have g24 := cnd_bne_f h24
              refine k_br (fun h26 => ?_) (fun h26 => ?_)
              · have g26 := cnd_beq_t h26
                exact k_out (by rw [(L g2.2.1 (by omega)).2.2] at g18; rw [(k1 g2.1 g2.2.1).2, (k2 g2.1 g2.2.2).2] at g26; exact Ent.of_eq (by rw [sec_5 g2 (by omega) g9 (and4 g18) g26]))
              · have g26 := cnd_beq_f h26
                refine k_br (fun h28 => ?_) (fun h28 => ?_)
                · have g28 := cnd_beq_t h28
                  exact k_out (by rw [(L g2.2.1 (by omega)).2.2] at g18 g28; rw [(k1 g2.1 g2.2.1).2, (k2 g2.1 g2.2.2).2] at g26; exact Ent.of_eq (by rw [sec_6 g2 (by omega) g9 (and4 g18) g26 g28]))
                · have g28 := cnd_beq_f h28
                  refine k_req (by have := hq g2.1; omega) ?_
                  refine k_sc (winv_c (Int.tmod (IntKind.wrap IntKind.i64 (IntKind.wrap IntKind.i64 (s.17 (Int.toNat (IntKind.wrap IntKind.i64 (leaf - fromS s))) (2) - t.17 (Int.toNat (firstI (fun (i : Nat) => t.17 i (0) == s.17 (Int.toNat (IntKind.wrap IntKind.i64 (leaf - fromS s))) (0)) t.16 (0))) (2)) + (Bas.gr b).2)) (Bas.gr b).2) ((Bas.gr b).2) (by have u := sub_q (scB_t g18.1.1.2) (scB_t g18.2) (hq g2.1).2; rw [u.1]; exact u.2.1) (by have u := sub_q (scB_t g18.1.1.2) (scB_t g18.2) (hq g2.1).2; rw [u.1]; exact u.2.2) ((hq g2.1).2)) ?_
                  refine k_req (by have := hq g2.1; omega) ?_
                  refine k_sc (wmul_c (Int.tmod (IntKind.wrap IntKind.i64 (IntKind.wrap IntKind.i64 (s.17 (Int.toNat (IntKind.wrap IntKind.i64 (leaf - fromS s))) (1) - t.17 (Int.toNat (firstI (fun (i : Nat) => t.17 i (0) == s.17 (Int.toNat (IntKind.wrap IntKind.i64 (leaf - fromS s))) (0)) t.16 (0))) (1)) + (Bas.gr b).2)) (Bas.gr b).2) (invF (Int.tmod (IntKind.wrap IntKind.i64 (IntKind.wrap IntKind.i64 (s.17 (Int.toNat (IntKind.wrap IntKind.i64 (leaf - fromS s))) (2) - t.17 (Int.toNat (firstI (fun (i : Nat) => t.17 i (0) == s.17 (Int.toNat (IntKind.wrap IntKind.i64 (leaf - fromS s))) (0)) t.16 (0))) (2)) + (Bas.gr b).2)) (Bas.gr b).2) (Bas.gr b).2) ((Bas.gr b).2)) ?_
                  exact k_out (by have u := sub_q (scB_t g18.1.1.2) (scB_t g18.2) (hq g2.1).2; have v := sub_q (scB_t g18.1.1.1) (scB_t g18.1.2) (hq g2.1).2; rw [u.1, v.1, chk_ok (hq g2.1).1 (hq g2.1).2 v.2.1 v.2.2 (invF_bound (hq g2.1).1).1 (invF_bound (hq g2.1).1).2]; rw [(L g2.2.1 (by omega)).2.2] at g18 g28 ⊢; rw [(k1 g2.1 g2.2.1).2, (k2 g2.1 g2.2.2).2] at g26; exact Ent.of_eq (by rw [sec_7 g2 (by omega) g9 (and4 g18) g26 g28]; rfl))

end Go.Proofs.YtmhipmiacghgeaaGreatDoor

namespace Go.Proofs.YtmhipmiacghgeaaGreatDoor
open Go Go.Am Go.Sp
set_option maxRecDepth 100000

theorem r33first_c (s : Spend) (h : okS s = true) : Pure Tryz.prog gl0 63 [s.av] (.int .i64 (fromS s)) := by
  have o := okS_all h
  have c1 := rspan_c s.depth s.level s.index o.1
  refine pure_sk (own := ow0) Tryz.func63 (by kernel_rfl) mixed (by kernel_rfl)
    (.sc (true) 79 ([Zi s.4, AV.agg [Zi s.11, Zi s.12]]) (AV.tup [Zi (spanA (Spend.depth s) (Spend.level s) (Spend.index s)), Zi (spanZ (Spend.depth s) (Spend.level s) (Spend.index s))]) (.out (Zi (spanA s.4 s.11 s.12)) [] (Zi (fromS s)) []))
    (by kernel_rfl) ?_
  refine k_sc (c1) ?_
  exact k_out (Ent.of_eq (congrArg _ o.2.2.1.symm))

theorem r33place_c (s : Spend) (v : Int) (hn : s.nl < 9223372036854775808) : Pure Tryz.prog gl0 114 [s.av, .int .i64 v] (.int .i64 (firstI (fun i => s.lf i 0 == v) s.nl 0)) := by
  refine pure_sk (own := ow0) Tryz.func114 (by kernel_rfl) mixed (by kernel_rfl)
    (.loop ({ x : Nat // x ≤ Spend.nl s ∧ (fun (i : Nat) => firstI (fun (i : Nat) => Spend.lf s i (0 : Nat) == v) (Spend.nl s) (0 : Nat) = firstI (fun (i : Nat) => Spend.lf s i (0 : Nat) == v) (Spend.nl s - i) i) x }) (fun (x : { x : Nat // x ≤ Spend.nl s ∧ (fun (i : Nat) => firstI (fun (i : Nat) => Spend.lf s i (0 : Nat) == v) (Spend.nl s) (0 : Nat) = firstI (fun (i : Nat) => Spend.lf s i (0 : Nat) == v) (Spend.nl s - i) i) x }) => mkSt [1, 2, 5] [Zi v, AV.own (0) (80) (0) (0) (80), Zi (↑(Subtype.val x) : Int)] [some { es := 80, n := 1, mu := true, f := Rep.lst [Spend.cells s] }]) (fun (x : { x : Nat // x ≤ Spend.nl s ∧ (fun (i : Nat) => firstI (fun (i : Nat) => Spend.lf s i (0 : Nat) == v) (Spend.nl s) (0 : Nat) = firstI (fun (i : Nat) => Spend.lf s i (0 : Nat) == v) (Spend.nl s - i) i) x }) => Spend.nl s - Subtype.val x) (⟨(0 : Nat), ⟨Nat.zero_le (Spend.nl s), rfl⟩⟩) ([1, 2, 5]) ([0]) ([Zi v, AV.own (0) (80) (0) (0) (80), Zi 0]) ([some { es := 80, n := 1, mu := true, f := Rep.lst [Spend.cells s] }]) (fun x0 => (.br (decide ((↑x0.1 : Int) < (↑s.16 : Int))) (.req ((0 : Int) ≤ (↑x0.1 : Int) ∧ (↑x0.1 : Int) < (↑s.16 : Int)) (.br (s.17 (Int.toNat (↑x0.1 : Int)) (0) == v) (.out (Zi (↑x0.1 : Int)) [] (Zi (firstI (fun (i : Nat) => Spend.lf s i (0 : Nat) == v) (Spend.nl s) (0 : Nat))) []) (.again (Again (0) (fun (x : { x : Nat // x ≤ Spend.nl s ∧ (fun (i : Nat) => firstI (fun (i : Nat) => Spend.lf s i (0 : Nat) == v) (Spend.nl s) (0 : Nat) = firstI (fun (i : Nat) => Spend.lf s i (0 : Nat) == v) (Spend.nl s - i) i) x }) => mkSt [1, 2, 5] [Zi v, AV.own (0) (80) (0) (0) (80), Zi (↑(Subtype.val x) : Int)] [some { es := 80, n := 1, mu := true, f := Rep.lst [Spend.cells s] }]) (fun (x : { x : Nat // x ≤ Spend.nl s ∧ (fun (i : Nat) => firstI (fun (i : Nat) => Spend.lf s i (0 : Nat) == v) (Spend.nl s) (0 : Nat) = firstI (fun (i : Nat) => Spend.lf s i (0 : Nat) == v) (Spend.nl s - i) i) x }) => Spend.nl s - Subtype.val x) x0) ([1, 2, 5]) ([0]) ([Zi v, AV.own (0) (80) (0) (0) (80), Zi (IntKind.wrap IntKind.i64 ((↑x0.1 : Int) + (1 : Int)))]) ([some { es := 80, n := 1, mu := true, f := Rep.lst [Spend.cells s] }])))) (.out (Zi (-1)) [] (Zi (firstI (fun (i : Nat) => Spend.lf s i (0 : Nat) == v) (Spend.nl s) (0 : Nat))) []))))
    (by kernel_rfl) ?_
  --LOOPINFO kept [1, 2] changed [5] objects [0]
  --LOOPINFO   obj 0: some { es := 80, n := 1, mu := true, f := Rep.lst [Spend.cells s] }
  refine k_loop (fun _ hs => hs.le (by repeat' (first | exact trivial | (first | exact Ent.refl _ | exact inc_ent (by omega) | exact Ent.nil rfl | exact Ent.of_eq (congrArg (AV.osl _ _ _) (by first | omega | (dsimp only; omega))) | exact Ent.of_eq (congrArg (AV.int _) (by first | omega | (dsimp only; omega)))) | refine And.intro ?_ ?_)) (by repeat' (first | exact trivial | (first | exact ObEnt.refl _ | exact ObEnt.junk | exact ObEnt.zero | exact ObEnt.push rfl rfl | exact ObEnt.pushRow rfl | exact ObEnt.len (by omega) | exact ObEnt.row (by repeat' (first | exact trivial | (first | exact Ent.refl _ | exact inc_ent (by omega) | exact Ent.nil rfl | exact Ent.of_eq (congrArg (AV.osl _ _ _) (by first | omega | (dsimp only; omega))) | exact Ent.of_eq (congrArg (AV.int _) (by first | omega | (dsimp only; omega)))) | refine And.intro ?_ ?_))) | refine And.intro ?_ ?_))) (fun x0 => ?_)
  try (have q0 := x0.2; dsimp only at q0)
  refine k_br (fun h1 => ?_) (fun h1 => ?_)
  · have g1 := cnd_dec_t h1
    refine k_req (by first | omega | (simp only [Int.toNat_natCast]; omega)) ?_
    refine k_br (fun h3 => ?_) (fun h3 => ?_)
    · have g3 := cnd_beq_t h3
      try simp only [Int.toNat_natCast] at g3
      exact k_out (Ent.of_eq (congrArg _ (first_hit x0.2.2 (by omega) (by simp only [beq_iff_eq]; exact g3))))
    · have g3 := cnd_beq_f h3
      try simp only [Int.toNat_natCast] at g3
      exact k_again (⟨x0.1 + 1, by omega, first_next x0.2.2 (by omega) (by simp only [beq_eq_false_iff_ne]; exact g3)⟩) (fun _ hs => hs.le (by repeat' (first | exact trivial | (first | exact Ent.refl _ | exact inc_ent (by omega) | exact Ent.nil rfl | exact Ent.of_eq (congrArg (AV.osl _ _ _) (by first | omega | (dsimp only; omega))) | exact Ent.of_eq (congrArg (AV.int _) (by first | omega | (dsimp only; omega)))) | refine And.intro ?_ ?_)) (by repeat' (first | exact trivial | (first | exact ObEnt.refl _ | exact ObEnt.junk | exact ObEnt.zero | exact ObEnt.push rfl rfl | exact ObEnt.pushRow rfl | exact ObEnt.len (by omega) | exact ObEnt.row (by repeat' (first | exact trivial | (first | exact Ent.refl _ | exact inc_ent (by omega) | exact Ent.nil rfl | exact Ent.of_eq (congrArg (AV.osl _ _ _) (by first | omega | (dsimp only; omega))) | exact Ent.of_eq (congrArg (AV.int _) (by first | omega | (dsimp only; omega)))) | refine And.intro ?_ ?_))) | refine And.intro ?_ ?_))) (by first | omega | (dsimp only; omega) | (simp; omega))
  · have g1 := cnd_dec_f h1
    exact k_out (Ent.of_eq (congrArg _ (first_miss x0.2.2 (by omega))))

theorem r33partner_c (s t : Spend) (j : Int) (k0 : 0 ≤ j) (k1 : j < s.nl) (hn : t.nl < 9223372036854775808) : Pure Tryz.prog gl0 64 [s.av, t.av, .int .i64 j] (.int .i64 (partI s t j.toNat)) := by
  have c1 := r33place_c t
  refine pure_sk (own := ow0) Tryz.func64 (by kernel_rfl) mixed (by kernel_rfl)
    (.br (s.5 != t.5) (.out (Zi (-1)) [] (Zi (partI s t (Int.toNat j))) []) (.req ((0 : Int) ≤ j ∧ j < (↑s.16 : Int)) (.sc (true) 114 ([AV.agg (Spend.cells t), Zi (s.17 (Int.toNat j) (0))]) (Zi (firstI (fun (i : Nat) => Spend.lf t i (0 : Nat) == s.17 (Int.toNat j) (0)) (Spend.nl t) (0 : Nat))) (.out (Zi (firstI (fun (i : Nat) => t.17 i (0) == s.17 (Int.toNat j) (0)) t.16 (0))) [] (Zi (partI s t (Int.toNat j))) []))))
    (by kernel_rfl) ?_
  refine k_br (fun h0 => ?_) (fun h0 => ?_)
  · have g0 := cnd_bne_t h0
    exact k_out (Ent.of_eq (congrArg _ (if_neg g0).symm))
  · have g0 := cnd_bne_f h0
    refine k_req (⟨k0, k1⟩) ?_
    refine k_sc (c1 (s.17 (Int.toNat j) (0)) (by first | assumption | omega)) ?_
    exact k_out (Ent.of_eq (congrArg _ (if_pos g0).symm))

theorem r33chal_c (b : Bas) (s : Spend) (bs : s.By) (hq : 0 < b.gr.q) (hq' : b.gr.q < 2305843009213693952) : Pure Tryz.prog gl0 66 [b.av, s.av] (.int .i64 (chS b s)) := by
  have c1 := rchal_c b s.coin s.level s.index s.cxt bs.root bs.payee hq hq'
  refine pure_sk (own := ow0) Tryz.func66 (by kernel_rfl) mixed (by kernel_rfl)
    (.sc (true) 49 ([AV.agg (Bas.cells b), AV.agg (Zi s.1 :: Zi s.2 :: Zi s.3 :: Zi s.4 :: Zi s.5 :: (u8c s.6 ++ [Zi s.7, Zi s.8, Zi s.9, Zi s.10])), AV.agg [Zi s.11, Zi s.12], AV.agg (u8c s.13 ++ [Zi s.14, Zi s.15])]) (Zi (chalN (Grp.q (Bas.gr b)) (Spend.coin s) (Spend.level s) (Spend.index s) (Spend.cxt s))) (.out (Zi (chalN (Bas.gr b).2 (Spend.coin s) s.11 s.12 (Spend.cxt s))) [] (Zi (chS b s)) []))
    (by kernel_rfl) ?_
  refine k_sc (c1) ?_
  exact k_out (Ent.refl _)

theorem rsecret_c (b : Bas) (s t : Spend) (leaf : Int) (hl : leaf ≤ 9223372036854775807) (hw : b.gr.W) (hs : s.nl ≤ 1000) (ht : t.nl ≤ 1000) (bs : s.By) (bt : t.By) : Pure Tryz.prog gl0 20 [b.av, s.av, t.av, .int .i64 leaf] (.tup [.int .i64 (secR b s t leaf).1, .int .i64 (secR b s t leaf).2]) := by
  have c1 := r11valid_c b hw
  have c2 := rformed_c s
  have c3 := rformed_c t
  have c4 := fun h => r33first_c s h
  have c5 := fun j h h' => r33partner_c s t j h h' (by omega)
  have c6 := r33scalar_c b
  have c7 := fun h h' => r33chal_c b s bs h h'
  have c8 := fun h h' => r33chal_c b t bt h h'
  have hq := fun h => validB_q (b := b) h
  have lr := fun h => leaf_r (s := s) (leaf := leaf) h hl
  have L := fun h h' => leaf_w (s := s) (leaf := leaf) h h'
  refine pure_sk (own := ow0) Tryz.func20 (by kernel_rfl) mixed (by kernel_rfl)
    (.sc (true) 15 ([AV.agg (Bas.cells b)]) (AV.bool (validB b)) (.sc ((!validB b) == false) 62 ([AV.agg (Spend.cells s)]) (AV.bool (okS s)) (.sc ((!validB b || !okS s) == false) 62 ([AV.agg (Spend.cells t)]) (AV.bool (okS t)) (.br (!validB b || !okS s || !okS t) (.out (AV.tup [Zi 0, Zi 1]) [] (AV.tup [Zi (Prod.fst (secR b s t leaf)), Zi (Prod.snd (secR b s t leaf))]) []) (.sc (true) 63 ([AV.agg (Spend.cells s)]) (Zi (fromS s)) (.br (decide (leaf < (0 : Int)) || decide (IntKind.wrap IntKind.i64 (leaf - fromS s) < (0 : Int)) || decide (IntKind.wrap IntKind.i64 (leaf - fromS s) ≥ (↑s.16 : Int))) (.out (AV.tup [Zi 0, Zi 2]) [] (AV.tup [Zi (Prod.fst (secR b s t leaf)), Zi (Prod.snd (secR b s t leaf))]) []) (.sc (true) 64 ([AV.agg (Spend.cells s), AV.agg (Spend.cells t), Zi (IntKind.wrap IntKind.i64 (leaf - fromS s))]) (Zi (partI s t (Int.toNat (IntKind.wrap IntKind.i64 (leaf - fromS s))))) (.br (decide (partI s t (Int.toNat (IntKind.wrap IntKind.i64 (leaf - fromS s))) < (0 : Int))) (.out (AV.tup [Zi 0, Zi 7]) [] (AV.tup [Zi (Prod.fst (secR b s t leaf)), Zi (Prod.snd (secR b s t leaf))]) []) (.req ((0 : Int) ≤ IntKind.wrap IntKind.i64 (leaf - fromS s) ∧ IntKind.wrap IntKind.i64 (leaf - fromS s) < (↑s.16 : Int)) (.req ((0 : Int) ≤ partI s t (Int.toNat (IntKind.wrap IntKind.i64 (leaf - fromS s))) ∧ partI s t (Int.toNat (IntKind.wrap IntKind.i64 (leaf - fromS s))) < (↑t.16 : Int)) (.sc (true) 65 ([AV.agg [Zi (Bas.gr b).1, Zi (Bas.gr b).2, Zi (Bas.gr b).3], Zi (s.17 (Int.toNat (IntKind.wrap IntKind.i64 (leaf - fromS s))) (1))]) (AV.bool (scB b (s.17 (Int.toNat (IntKind.wrap IntKind.i64 (leaf - fromS s))) (1)))) (.sc ((!scB b (s.17 (Int.toNat (IntKind.wrap IntKind.i64 (leaf - fromS s))) (1))) == false) 65 ([AV.agg [Zi (Bas.gr b).1, Zi (Bas.gr b).2, Zi (Bas.gr b).3], Zi (s.17 (Int.toNat (IntKind.wrap IntKind.i64 (leaf - fromS s))) (2))]) (AV.bool (scB b (s.17 (Int.toNat (IntKind.wrap IntKind.i64 (leaf - fromS s))) (2)))) (.sc ((!scB b (s.17 (Int.toNat (IntKind.wrap IntKind.i64 (leaf - fromS s))) (1)) || !scB b (s.17 (Int.toNat (IntKind.wrap IntKind.i64 (leaf - fromS s))) (2))) == false) 65 ([AV.agg [Zi (Bas.gr b).1, Zi (Bas.gr b).2, Zi (Bas.gr b).3], Zi (t.17 (Int.toNat (partI s t (Int.toNat (IntKind.wrap IntKind.i64 (leaf - fromS s))))) (1))]) (AV.bool (scB b (t.17 (Int.toNat (partI s t (Int.toNat (IntKind.wrap IntKind.i64 (leaf - fromS s))))) (1)))) (.sc ((!scB b (s.17 (Int.toNat (IntKind.wrap IntKind.i64 (leaf - fromS s))) (1)) || !scB b (s.17 (Int.toNat (IntKind.wrap IntKind.i64 (leaf - fromS s))) (2)) || !scB b (t.17 (Int.toNat (partI s t (Int.toNat (IntKind.wrap IntKind.i64 (leaf - fromS s))))) (1))) == false) 65 ([AV.agg [Zi (Bas.gr b).1, Zi (Bas.gr b).2, Zi (Bas.gr b).3], Zi (t.17 (Int.toNat (partI s t (Int.toNat (IntKind.wrap IntKind.i64 (leaf - fromS s))))) (2))]) (AV.bool (scB b (t.17 (Int.toNat (partI s t (Int.toNat (IntKind.wrap IntKind.i64 (leaf - fromS s))))) (2)))) (.br (!scB b (s.17 (Int.toNat (IntKind.wrap IntKind.i64 (leaf - fromS s))) (1)) || !scB b (s.17 (Int.toNat (IntKind.wrap IntKind.i64 (leaf - fromS s))) (2)) || !scB b (t.17 (Int.toNat (partI s t (Int.toNat (IntKind.wrap IntKind.i64 (leaf - fromS s))))) (1)) || !scB b (t.17 (Int.toNat (partI s t (Int.toNat (IntKind.wrap IntKind.i64 (leaf - fromS s))))) (2))) (.out (AV.tup [Zi 0, Zi 2]) [] (AV.tup [Zi (Prod.fst (secR b s t leaf)), Zi (Prod.snd (secR b s t leaf))]) []) (.sc (true) 66 ([AV.agg (Bas.cells b), AV.agg (Spend.cells s)]) (Zi (chS b s)) (.sc (true) 66 ([AV.agg (Bas.cells b), AV.agg (Spend.cells t)]) (Zi (chS b t)) (.br (chS b s == chS b t) (.out (AV.tup [Zi 0, Zi 20]) [] (AV.tup [Zi (Prod.fst (secR b s t leaf)), Zi (Prod.snd (secR b s t leaf))]) []) (.br (s.17 (Int.toNat (IntKind.wrap IntKind.i64 (leaf - fromS s))) (2) == t.17 (Int.toNat (partI s t (Int.toNat (IntKind.wrap IntKind.i64 (leaf - fromS s))))) (2)) (.out (AV.tup [Zi 0, Zi 10]) [] (AV.tup [Zi (Prod.fst (secR b s t leaf)), Zi (Prod.snd (secR b s t leaf))]) []) (.req ((Bas.gr b).2 ≠ (0 : Int)) (.sc (true) 67 ([Zi (Int.tmod (IntKind.wrap IntKind.i64 (IntKind.wrap IntKind.i64 (s.17 (Int.toNat (IntKind.wrap IntKind.i64 (leaf - fromS s))) (2) + (Bas.gr b).2) - t.17 (Int.toNat (partI s t (Int.toNat (IntKind.wrap IntKind.i64 (leaf - fromS s))))) (2))) (Bas.gr b).2), Zi (Bas.gr b).2]) (AV.tup [Zi (invF (Int.tmod (IntKind.wrap IntKind.i64 (IntKind.wrap IntKind.i64 (s.17 (Int.toNat (IntKind.wrap IntKind.i64 (leaf - fromS s))) (2) + (Bas.gr b).2) - t.17 (Int.toNat (partI s t (Int.toNat (IntKind.wrap IntKind.i64 (leaf - fromS s))))) (2))) (Bas.gr b).2) (Bas.gr b).2), AV.bool (decide (Int.gcd (Int.tmod (IntKind.wrap IntKind.i64 (IntKind.wrap IntKind.i64 (s.17 (Int.toNat (IntKind.wrap IntKind.i64 (leaf - fromS s))) (2) + (Bas.gr b).2) - t.17 (Int.toNat (partI s t (Int.toNat (IntKind.wrap IntKind.i64 (leaf - fromS s))))) (2))) (Bas.gr b).2) (Bas.gr b).2 = (1 : Nat)))]) (.req ((Bas.gr b).2 ≠ (0 : Int)) (.sc (true) 68 ([Zi (Int.tmod (IntKind.wrap IntKind.i64 (IntKind.wrap IntKind.i64 (s.17 (Int.toNat (IntKind.wrap IntKind.i64 (leaf - fromS s))) (1) + (Bas.gr b).2) - t.17 (Int.toNat (partI s t (Int.toNat (IntKind.wrap IntKind.i64 (leaf - fromS s))))) (1))) (Bas.gr b).2), Zi (invF (Int.tmod (IntKind.wrap IntKind.i64 (IntKind.wrap IntKind.i64 (s.17 (Int.toNat (IntKind.wrap IntKind.i64 (leaf - fromS s))) (2) + (Bas.gr b).2) - t.17 (Int.toNat (partI s t (Int.toNat (IntKind.wrap IntKind.i64 (leaf - fromS s))))) (2))) (Bas.gr b).2) (Bas.gr b).2), Zi (Bas.gr b).2]) (Zi (Int.tmod (IntKind.wrap IntKind.i64 (IntKind.wrap IntKind.i64 (s.17 (Int.toNat (IntKind.wrap IntKind.i64 (leaf - fromS s))) (1) + (Bas.gr b).2) - t.17 (Int.toNat (partI s t (Int.toNat (IntKind.wrap IntKind.i64 (leaf - fromS s))))) (1))) (Bas.gr b).2 * invF (Int.tmod (IntKind.wrap IntKind.i64 (IntKind.wrap IntKind.i64 (s.17 (Int.toNat (IntKind.wrap IntKind.i64 (leaf - fromS s))) (2) + (Bas.gr b).2) - t.17 (Int.toNat (partI s t (Int.toNat (IntKind.wrap IntKind.i64 (leaf - fromS s))))) (2))) (Bas.gr b).2) (Bas.gr b).2 % (Bas.gr b).2)) (.out (AV.tup [Zi (Int.tmod (IntKind.wrap IntKind.i64 (IntKind.wrap IntKind.i64 (s.17 (Int.toNat (IntKind.wrap IntKind.i64 (leaf - fromS s))) (1) + (Bas.gr b).2) - t.17 (Int.toNat (partI s t (Int.toNat (IntKind.wrap IntKind.i64 (leaf - fromS s))))) (1))) (Bas.gr b).2 * invF (Int.tmod (IntKind.wrap IntKind.i64 (IntKind.wrap IntKind.i64 (s.17 (Int.toNat (IntKind.wrap IntKind.i64 (leaf - fromS s))) (2) + (Bas.gr b).2) - t.17 (Int.toNat (partI s t (Int.toNat (IntKind.wrap IntKind.i64 (leaf - fromS s))))) (2))) (Bas.gr b).2) (Bas.gr b).2 % (Bas.gr b).2), Zi 0]) [] (AV.tup [Zi (Prod.fst (secR b s t leaf)), Zi (Prod.snd (secR b s t leaf))]) []))))))))))))))))))))))))
    (by kernel_rfl) ?_
  refine k_sc (c1) ?_
  refine k_scg (fun h1 => c2) ?_
  refine k_scg (fun h2 => c3) ?_
  refine k_br (fun h3 => ?_) (fun h3 => ?_)
  · have g3 := (cnd_or_t (cnd_or_t (cnd_not_t cnd_id_f) (cnd_not_t cnd_id_f)) (cnd_not_t cnd_id_f)) h3
    exact k_out (Ent.of_eq (by rw [sec_1 (or_assoc.1 g3)]))
  · have g3 := (cnd_or_f (cnd_or_f (cnd_not_f cnd_id_t) (cnd_not_f cnd_id_t)) (cnd_not_f cnd_id_t)) h3
    refine k_sc (c4 (g3.1.2)) ?_
    refine k_br (fun h6 => ?_) (fun h6 => ?_)
    · have g6 := (cnd_or_t (cnd_or_t cnd_dec_t cnd_dec_t) cnd_dec_t) h6
      exact k_out (Ent.of_eq (by rw [sec_2 (and_assoc.1 g3) ((lr g3.1.2).1 g6)]))
    · have g6 := (cnd_or_f (cnd_or_f cnd_dec_f cnd_dec_f) cnd_dec_f) h6
      refine k_sc (c5 (IntKind.wrap IntKind.i64 (leaf - fromS s)) (by omega) (by omega)) ?_
      refine k_br (fun h9 => ?_) (fun h9 => ?_)
      · have g9 := cnd_dec_t h9
        exact k_out (by have nl : ¬ (leaf < fromS s ∨ toS s ≤ leaf) := (fun hh => by have := (lr g3.1.2).2 hh; omega); rw [(L g3.1.2 nl).2.2] at g9; exact Ent.of_eq (by rw [sec_3 (and_assoc.1 g3) nl (fun hm => (part_has g3.1.2 nl).2 hm g9)]))
      · have g9 := cnd_dec_f h9
        refine k_req (by omega) ?_
        refine k_req (by have k := sec_k g3.1.2 hl g6 g9; rw [k.2.2.1]; exact k.2.2.2.2) ?_
        refine k_sc (c6 (s.17 (Int.toNat (IntKind.wrap IntKind.i64 (leaf - fromS s))) (1))) ?_
        refine k_scg (fun h14 => c6 (s.17 (Int.toNat (IntKind.wrap IntKind.i64 (leaf - fromS s))) (2))) ?_
        refine k_scg (fun h15 => c6 (t.17 (Int.toNat (partI s t (Int.toNat (IntKind.wrap IntKind.i64 (leaf - fromS s))))) (1))) ?_
        refine k_scg (fun h16 => c6 (t.17 (Int.toNat (partI s t (Int.toNat (IntKind.wrap IntKind.i64 (leaf - fromS s))))) (2))) ?_
        refine k_br (fun h17 => ?_) (fun h17 => ?_)
        · have g17 := (cnd_or_t (cnd_or_t (cnd_or_t (cnd_not_t cnd_id_f) (cnd_not_t cnd_id_f)) (cnd_not_t cnd_id_f)) (cnd_not_t cnd_id_f)) h17
          exact k_out (by have k := sec_k g3.1.2 hl g6 g9; rw [k.2.2.1, k.2.2.2.1] at g17; exact Ent.of_eq (by rw [sec_4 (and_assoc.1 g3) k.1 k.2.1 (or4 g17)]))
        · have g17 := (cnd_or_f (cnd_or_f (cnd_or_f (cnd_not_f cnd_id_t) (cnd_not_f cnd_id_t)) (cnd_not_f cnd_id_t)) (cnd_not_f cnd_id_t)) h17
          refine k_sc (c7 ((hq g3.1.1).1) ((hq g3.1.1).2)) ?_
          refine k_sc (c8 ((hq g3.1.1).1) ((hq g3.1.1).2)) ?_
          refine k_br (fun h21 => ?_) (fun h21 => ?_)
          · have g21 := cnd_beq_t h21
            exact k_out (by have k := sec_k g3.1.2 hl g6 g9; rw [k.2.2.1, k.2.2.2.1] at g17; exact Ent.of_eq (by rw [sec_5 (and_assoc.1 g3) k.1 k.2.1 (and4 g17) g21]))
          · have g21 := cnd_beq_f h21
            refine k_br (fun h23 => ?_) (fun h23 => ?_)
            · have g23 := cnd_beq_t h23
              exact k_out (by have k := sec_k g3.1.2 hl g6 g9; rw [k.2.2.1, k.2.2.2.1] at g17 g23; exact Ent.of_eq (by rw [sec_6 (and_assoc.1 g3) k.1 k.2.1 (and4 g17) g21 g23]))
            · have g23 := cnd_beq_f h23
              refine k_req (by have := hq g3.1.1; omega) ?_
              refine k_sc (rinv_c (Int.tmod (IntKind.wrap IntKind.i64 (IntKind.wrap IntKind.i64 (s.17 (Int.toNat (IntKind.wrap IntKind.i64 (leaf - fromS s))) (2) + (Bas.gr b).2) - t.17 (Int.toNat (partI s t (Int.toNat (IntKind.wrap IntKind.i64 (leaf - fromS s))))) (2))) (Bas.gr b).2) ((Bas.gr b).2) (by have u := sub_r (scB_t g17.1.1.2) (scB_t g17.2) (hq g3.1.1).2; rw [u.1]; exact u.2.1) (by have u := sub_r (scB_t g17.1.1.2) (scB_t g17.2) (hq g3.1.1).2; rw [u.1]; exact u.2.2) ((hq g3.1.1).2)) ?_
              refine k_req (by have := hq g3.1.1; omega) ?_
              refine k_sc (rmul_c (Int.tmod (IntKind.wrap IntKind.i64 (IntKind.wrap IntKind.i64 (s.17 (Int.toNat (IntKind.wrap IntKind.i64 (leaf - fromS s))) (1) + (Bas.gr b).2) - t.17 (Int.toNat (partI s t (Int.toNat (IntKind.wrap IntKind.i64 (leaf - fromS s))))) (1))) (Bas.gr b).2) (invF (Int.tmod (IntKind.wrap IntKind.i64 (IntKind.wrap IntKind.i64 (s.17 (Int.toNat (IntKind.wrap IntKind.i64 (leaf - fromS s))) (2) + (Bas.gr b).2) - t.17 (Int.toNat (partI s t (Int.toNat (IntKind.wrap IntKind.i64 (leaf - fromS s))))) (2))) (Bas.gr b).2) (Bas.gr b).2) ((Bas.gr b).2) (by have u := sub_r (scB_t g17.1.1.1) (scB_t g17.1.2) (hq g3.1.1).2; rw [u.1]; exact u.2.1) (by have u := sub_r (scB_t g17.1.1.1) (scB_t g17.1.2) (hq g3.1.1).2; rw [u.1]; exact u.2.2) ((invF_bound (hq g3.1.1).1).1) ((invF_bound (hq g3.1.1).1).2) ((hq g3.1.1).2)) ?_
              exact k_out (by have u := sub_r (scB_t g17.1.1.2) (scB_t g17.2) (hq g3.1.1).2; have v := sub_r (scB_t g17.1.1.1) (scB_t g17.1.2) (hq g3.1.1).2; rw [u.1, v.1]; have k := sec_k g3.1.2 hl g6 g9; rw [k.2.2.1, k.2.2.2.1] at g17 g23 ⊢; exact Ent.of_eq (by rw [sec_7 (and_assoc.1 g3) k.1 k.2.1 (and4 g17) g21 g23]))

end Go.Proofs.YtmhipmiacghgeaaGreatDoor

namespace Go.Proofs.YtmhipmiacghgeaaGreatDoor
open Go Go.Am Go.Sp
set_option maxRecDepth 100000

theorem few33x_c (s : Spend) : Pure Tryz.prog gl0 52 [s.av] (.bool (!fewB s)) := by
  refine pure_sk (own := ow0) Tryz.func52 (by kernel_rfl) mixed (by kernel_rfl)
    (.out (AV.bool (decide ((↑s.16 : Int) > (40 : Int)) || decide ((↑s.19 : Int) > (20 : Int)))) [] (AV.bool !fewB s) [])
    (by kernel_rfl) ?_
  exact k_out (Ent.of_eq (congrArg _ (by rw [fewB, Bool.not_and, ← decide_not, ← decide_not]; congr 1 <;> exact decide_eq_decide.2 (by omega))))

theorem indexS_w (F : FuncId) (S : Nat → Spend) (n : Nat) (p : Nat → Bool) (hn : n < 9223372036854775808) (hc : ∀ i, i < n → Pure Tryz.prog gl0 F [(S i).av] (.bool (p i))) : Pure Tryz.prog gl0 86 [.isl 80 n (fun i j => atL (S i).cells j), .fn (.func F) [] []] (.int .i64 (firstI p n 0)) := by
  refine pure_sk (own := ow0) Tryz.func86 (by kernel_rfl) mixed (by kernel_rfl)
    (.loop ({ x : Nat // x ≤ n ∧ (fun (i : Nat) => firstI p n (0 : Nat) = firstI p (n - i) i) x }) (fun (x : { x : Nat // x ≤ n ∧ (fun (i : Nat) => firstI p n (0 : Nat) = firstI p (n - i) i) x }) => mkSt [0, 1, 7, 8] [AV.isl (80) n fun (i j : Nat) => atL (Spend.cells (S i)) j, AV.fn (Fn.func F) [] [], Zi (↑n : Int), Zi (↑(Subtype.val x) : Int)] []) (fun (x : { x : Nat // x ≤ n ∧ (fun (i : Nat) => firstI p n (0 : Nat) = firstI p (n - i) i) x }) => n - Subtype.val x) (⟨(0 : Nat), ⟨Nat.zero_le n, rfl⟩⟩) ([0, 1, 7, 8]) ([]) ([AV.isl (80) n fun (i j : Nat) => atL (Spend.cells (S i)) j, AV.fn (Fn.func F) [] [], Zi (↑n : Int), Zi 0]) ([]) (fun x0 => (.br (decide ((↑x0.1 : Int) < (↑n : Int))) (.req ((0 : Int) ≤ (↑x0.1 : Int) ∧ (↑x0.1 : Int) < (↑n : Int)) (.sc (true) F ([AV.agg (Spend.cells (S (Int.toNat (↑(Subtype.val x0) : Int))))]) (AV.bool (p (Int.toNat (↑(Subtype.val x0) : Int)))) (.br (p (Int.toNat (↑x0.1 : Int))) (.out (Zi (↑x0.1 : Int)) [] (Zi (firstI p n (0 : Nat))) []) (.again (Again (0) (fun (x : { x : Nat // x ≤ n ∧ (fun (i : Nat) => firstI p n (0 : Nat) = firstI p (n - i) i) x }) => mkSt [0, 1, 7, 8] [AV.isl (80) n fun (i j : Nat) => atL (Spend.cells (S i)) j, AV.fn (Fn.func F) [] [], Zi (↑n : Int), Zi (↑(Subtype.val x) : Int)] []) (fun (x : { x : Nat // x ≤ n ∧ (fun (i : Nat) => firstI p n (0 : Nat) = firstI p (n - i) i) x }) => n - Subtype.val x) x0) ([0, 1, 7, 8]) ([]) ([AV.isl (80) n fun (i j : Nat) => atL (Spend.cells (S i)) j, AV.fn (Fn.func F) [] [], Zi (↑n : Int), Zi (IntKind.wrap IntKind.i64 ((↑x0.1 : Int) + (1 : Int)))]) ([]))))) (.out (Zi (-1)) [] (Zi (firstI p n (0 : Nat))) []))))
    (by kernel_rfl) ?_
  --LOOPINFO kept [0, 1, 7] changed [8] objects []
  refine k_loop (fun _ hs => hs.le (by repeat' (first | exact trivial | (first | exact Ent.refl _ | exact inc_ent (by omega) | exact Ent.nil rfl | exact Ent.of_eq (congrArg (AV.osl _ _ _) (by first | omega | (dsimp only; omega))) | exact Ent.of_eq (congrArg (AV.int _) (by first | omega | (dsimp only; omega)))) | refine And.intro ?_ ?_)) (trivial)) (fun x0 => ?_)
  try (have q0 := x0.2; dsimp only at q0)
  refine k_br (fun h1 => ?_) (fun h1 => ?_)
  · have g1 := cnd_dec_t h1
    refine k_req (by first | omega | (simp only [Int.toNat_natCast]; omega)) ?_
    refine k_sc (hc (Int.toNat (↑(Subtype.val x0) : Int)) (by first | assumption | omega)) ?_
    refine k_br (fun h4 => ?_) (fun h4 => ?_)
    · have g4 := cnd_id_t h4
      try simp only [Int.toNat_natCast] at g4
      exact k_out (Ent.of_eq (congrArg _ (first_hit x0.2.2 (by omega) g4)))
    · have g4 := cnd_id_f h4
      try simp only [Int.toNat_natCast] at g4
      exact k_again (⟨x0.1 + 1, by omega, first_next x0.2.2 (by omega) g4⟩) (fun _ hs => hs.le (by repeat' (first | exact trivial | (first | exact Ent.refl _ | exact inc_ent (by omega) | exact Ent.nil rfl | exact Ent.of_eq (congrArg (AV.osl _ _ _) (by first | omega | (dsimp only; omega))) | exact Ent.of_eq (congrArg (AV.int _) (by first | omega | (dsimp only; omega)))) | refine And.intro ?_ ?_)) (trivial)) (by first | omega | (dsimp only; omega) | (simp; omega))
  · have g1 := cnd_dec_f h1
    exact k_out (Ent.of_eq (congrArg _ (first_miss x0.2.2 (by omega))))

theorem containsS_w (F : FuncId) (S : Nat → Spend) (n : Nat) (p : Nat → Bool) (hn : n < 9223372036854775808) (hc : ∀ i, i < n → Pure Tryz.prog gl0 F [(S i).av] (.bool (p i))) : Pure Tryz.prog gl0 33 [.isl 80 n (fun i j => atL (S i).cells j), .fn (.func F) [] []] (.bool (decide (firstI p n 0 ≥ 0))) := by
  have c1 := indexS_w F S n p hn hc
  refine pure_sk (own := ow0) Tryz.func33 (by kernel_rfl) mixed (by kernel_rfl)
    (.sc (true) 86 ([AV.isl (80) n fun (i j : Nat) => atL (Spend.cells (S i)) j, AV.fn (Fn.func F) [] []]) (Zi (firstI p n (0 : Nat))) (.out (AV.bool (decide (firstI p n (0) ≥ (0 : Int)))) [] (AV.bool (decide (firstI p n (0 : Nat) ≥ (0 : Int)))) []))
    (by kernel_rfl) ?_
  refine k_sc (c1) ?_
  exact k_out (Ent.refl _)

theorem few33_c (S : Nat → Spend) (n : Nat) (hn : n < 9223372036854775808) : Pure Tryz.prog gl0 18 [.isl 80 n (fun i j => atL (S i).cells j)] (.bool (!decide (firstI (fun i => !fewB (S i)) n 0 ≥ 0))) := by
  have c1 := containsS_w 52 S n (fun i => !fewB (S i)) hn (fun i _ => few33x_c (S i))
  refine pure_sk (own := ow0) Tryz.func18 (by kernel_rfl) mixed (by kernel_rfl)
    (.sc (true) 33 ([AV.isl (80) n fun (i j : Nat) => atL (Spend.cells (S i)) j, AV.fn (Fn.func (52 : Nat)) [] []]) (AV.bool (decide (firstI (fun (i : Nat) => !fewB (S i)) n (0 : Nat) ≥ (0 : Int)))) (.out (AV.bool !decide (firstI (fun (i : Nat) => !fewB (S i)) n (0) ≥ (0 : Int))) [] (AV.bool !decide (firstI (fun (i : Nat) => !fewB (S i)) n (0 : Nat) ≥ (0 : Int))) []))
    (by kernel_rfl) ?_
  refine k_sc (c1) ?_
  exact k_out (Ent.refl _)

theorem few33_1 (a : Spend) : Pure Tryz.prog gl0 18 [.isl 80 1 fun r k => atL (List.getD [a.cells] r []) k] (.bool (fewB a)) := by
  refine Pure.ent (Pure.via (few33_c (fun _ => a) 1 (by omega)) ?_) (Ent.of_eq (congrArg _ (by rw [firstI_neg]; simp [List.range, List.range.loop])))
  exact ⟨Ent.rows fun i hi => (by obtain rfl : i = 0 := Nat.lt_one_iff.1 hi
                                  rfl), trivial⟩

theorem few33_2 (a b : Spend) : Pure Tryz.prog gl0 18 [.isl 80 2 fun r k => atL (List.getD [a.cells, b.cells] r []) k] (.bool (fewB a && fewB b)) := by
  refine Pure.ent (Pure.via (few33_c (fun i => bif Nat.beq i 0 then a else b) 2 (by omega)) ?_) (Ent.of_eq (congrArg _ (by rw [firstI_neg]; simp [List.range, List.range.loop]; rfl)))
  exact ⟨Ent.two (g := fun i => Spend.cells (bif Nat.beq i 0 then a else b)) rfl rfl, trivial⟩

theorem ex_secret_c (n : Int) (h0 : 0 ≤ n) (h1 : n ≤ 1000) (h : ¬ chS exB exX = chS exB (exY n)) : Pure Tryz.prog gl0 19 [exB.av, .agg (Spend.cw exX (.isl 3 1 fun r k => atL (List.getD [[.int .i64 4, .int .i64 4, .int .i64 9]] r []) k) .nsl), .agg (Spend.cw (exY n) (.isl 3 1 fun r k => atL (List.getD [[.int .i64 4, .int .i64 6, .int .i64 1]] r []) k) .nsl), .int .i64 0] (.tup [.int .i64 8, .int .i64 0]) := by
  refine Pure.ent (Pure.via (secret_c exB exX (exY n) 0 ex_w (by decide) (by show 1 ≤ 1000; decide) ex_by (ey_by n)) ?_) (Ent.of_eq (by rw [ex_secR h0 h1 h]))
  exact ⟨Ent.refl _, Ent.agg exX_ent, Ent.agg (exY_ent n), Ent.refl _, trivial⟩

theorem ex_shared_c (n : Int) (h0 : 0 ≤ n) (h1 : n ≤ 1000) : Pure Tryz.prog gl0 50 [.agg (Spend.cw exX (.isl 3 1 fun r k => atL (List.getD [[.int .i64 4, .int .i64 4, .int .i64 9]] r []) k) .nsl), .agg (Spend.cw (exY n) (.isl 3 1 fun r k => atL (List.getD [[.int .i64 4, .int .i64 6, .int .i64 1]] r []) k) .nsl)] (.tup [il .i64 [0], .int .i64 0]) := by
  refine Pure.ent (Pure.via (xshared_c exX (exY n) (by decide) (by show 1 ≤ 1000; decide)) ?_) (Ent.of_eq (by rw [exX_ok, exY_ok h0 h1]; rfl))
  exact ⟨Ent.agg exX_ent, Ent.agg (exY_ent n), trivial⟩

theorem eq0_c : Pure Tryz.prog gl0 51 [il .i64 [0], .isl 1 1 fun r k => atL (List.getD [[.int .i64 0]] r []) k] (.bool true) :=
  (equalN_c [0] (by decide)).via ⟨Ent.refl _, il_rows rfl rfl, trivial⟩

theorem awake33_c : Pure Tryz.prog gl0 17 [] (.bool true) := by
  have c1 := rchal_c exB exX.coin exX.level exX.index exX.cxt ex_by.root ex_by.payee (by decide) (by decide)
  have c2 := fun n => rchal_c exB (exY n).coin (exY n).level (exY n).index (exY n).cxt (ey_by n).root (ey_by n).payee (by decide) (by decide)
  refine pure_sk (own := ow0) Tryz.func17 (by kernel_rfl) mixed (by kernel_rfl)
    (.loop ({ x : Nat // x ≤ (40 : Nat) }) (fun (x : { x : Nat // x ≤ (40 : Nat) }) => mkSt [1, 2, 11, 15] [AV.own (0) (6) (0) (0) (6), AV.own (1) (80) (0) (0) (80), AV.agg [Zi 0, Zi 0, Zi 0, Zi 0, Zi 8, Zb 0, Zb 0, Zb 0, Zb 0, Zb 0, Zb 0, Zb 0, Zb 0, Zb 0, Zb 0, Zb 0, Zb 0, Zb 0, Zb 0, Zb 0, Zb 0, Zb 0, Zb 0, Zb 0, Zb 0, Zb 0, Zb 0, Zb 0, Zb 0, Zb 0, Zb 0, Zb 0, Zb 0, Zb 0, Zb 0, Zb 0, Zb 0, Zi 0, Zi 0, Zi 0, Zi 0], Zi (↑(Subtype.val x) : Int)] [some { es := 6, n := 1, mu := true, f := Rep.lst [[Zi 23, Zi 11, Zi 4, Zi 2, Zi 3, Zi 6]] }, some { es := 80, n := 1, mu := true, f := Rep.lst [[Zi 0, Zi 0, Zi 0, Zi 0, Zi 8, Zb 0, Zb 0, Zb 0, Zb 0, Zb 0, Zb 0, Zb 0, Zb 0, Zb 0, Zb 0, Zb 0, Zb 0, Zb 0, Zb 0, Zb 0, Zb 0, Zb 0, Zb 0, Zb 0, Zb 0, Zb 0, Zb 0, Zb 0, Zb 0, Zb 0, Zb 0, Zb 0, Zb 0, Zb 0, Zb 0, Zb 0, Zb 0, Zi 0, Zi 0, Zi 0, Zi 0, Zi 0, Zi 0, Zb 0, Zb 0, Zb 0, Zb 0, Zb 0, Zb 0, Zb 0, Zb 0, Zb 0, Zb 0, Zb 0, Zb 0, Zb 0, Zb 0, Zb 0, Zb 0, Zb 0, Zb 0, Zb 0, Zb 0, Zb 0, Zb 0, Zb 0, Zb 0, Zb 0, Zb 0, Zb 0, Zb 0, Zb 0, Zb 0, Zb 0, Zb 0, Zi 0, Zi 0, AV.osl (2) (3) (0) (1), Zi 0, AV.nsl]] }, some { es := 3, n := 1, mu := true, f := Rep.lst [[Zi 4, Zi 4, Zi 9]] }]) (fun (x : { x : Nat // x ≤ (40 : Nat) }) => (40 : Nat) - Subtype.val x) (⟨(0 : Nat), Nat.zero_le (40 : Nat)⟩) ([1, 2, 11, 15]) ([24, 72, 56]) ([AV.own (0) (6) (0) (0) (6), AV.own (1) (80) (0) (0) (80), AV.agg [Zi 0, Zi 0, Zi 0, Zi 0, Zi 8, Zb 0, Zb 0, Zb 0, Zb 0, Zb 0, Zb 0, Zb 0, Zb 0, Zb 0, Zb 0, Zb 0, Zb 0, Zb 0, Zb 0, Zb 0, Zb 0, Zb 0, Zb 0, Zb 0, Zb 0, Zb 0, Zb 0, Zb 0, Zb 0, Zb 0, Zb 0, Zb 0, Zb 0, Zb 0, Zb 0, Zb 0, Zb 0, Zi 0, Zi 0, Zi 0, Zi 0], Zi 0]) ([some { es := 6, n := 1, mu := true, f := Rep.lst [[Zi 23, Zi 11, Zi 4, Zi 2, Zi 3, Zi 6]] }, some { es := 80, n := 1, mu := true, f := Rep.lst [[Zi 0, Zi 0, Zi 0, Zi 0, Zi 8, Zb 0, Zb 0, Zb 0, Zb 0, Zb 0, Zb 0, Zb 0, Zb 0, Zb 0, Zb 0, Zb 0, Zb 0, Zb 0, Zb 0, Zb 0, Zb 0, Zb 0, Zb 0, Zb 0, Zb 0, Zb 0, Zb 0, Zb 0, Zb 0, Zb 0, Zb 0, Zb 0, Zb 0, Zb 0, Zb 0, Zb 0, Zb 0, Zi 0, Zi 0, Zi 0, Zi 0, Zi 0, Zi 0, Zb 0, Zb 0, Zb 0, Zb 0, Zb 0, Zb 0, Zb 0, Zb 0, Zb 0, Zb 0, Zb 0, Zb 0, Zb 0, Zb 0, Zb 0, Zb 0, Zb 0, Zb 0, Zb 0, Zb 0, Zb 0, Zb 0, Zb 0, Zb 0, Zb 0, Zb 0, Zb 0, Zb 0, Zb 0, Zb 0, Zb 0, Zb 0, Zi 0, Zi 0, AV.osl (2) (3) (0) (1), Zi 0, AV.nsl]] }, some { es := 3, n := 1, mu := true, f := Rep.lst [[Zi 4, Zi 4, Zi 9]] }]) (fun x0 => (.br (decide ((↑x0.1 : Int) < (40 : Int))) (.sc (true) 49 ([AV.agg [Zi 23, Zi 11, Zi 4, Zi 2, Zi 3, Zi 6], AV.agg [Zi 0, Zi 0, Zi 0, Zi 0, Zi 8, Zb 0, Zb 0, Zb 0, Zb 0, Zb 0, Zb 0, Zb 0, Zb 0, Zb 0, Zb 0, Zb 0, Zb 0, Zb 0, Zb 0, Zb 0, Zb 0, Zb 0, Zb 0, Zb 0, Zb 0, Zb 0, Zb 0, Zb 0, Zb 0, Zb 0, Zb 0, Zb 0, Zb 0, Zb 0, Zb 0, Zb 0, Zb 0, Zi 0, Zi 0, Zi 0, Zi 0], AV.agg [Zi 0, Zi 0], AV.agg [Zb 0, Zb 0, Zb 0, Zb 0, Zb 0, Zb 0, Zb 0, Zb 0, Zb 0, Zb 0, Zb 0, Zb 0, Zb 0, Zb 0, Zb 0, Zb 0, Zb 0, Zb 0, Zb 0, Zb 0, Zb 0, Zb 0, Zb 0, Zb 0, Zb 0, Zb 0, Zb 0, Zb 0, Zb 0, Zb 0, Zb 0, Zb 0, Zi 0, Zi 0]]) (Zi (chalN (Grp.q (Bas.gr exB)) (Spend.coin exX) (Spend.level exX) (Spend.index exX) (Spend.cxt exX))) (.sc (true) 49 ([AV.agg [Zi 23, Zi 11, Zi 4, Zi 2, Zi 3, Zi 6], AV.agg [Zi 0, Zi 0, Zi 0, Zi 0, Zi 8, Zb 0, Zb 0, Zb 0, Zb 0, Zb 0, Zb 0, Zb 0, Zb 0, Zb 0, Zb 0, Zb 0, Zb 0, Zb 0, Zb 0, Zb 0, Zb 0, Zb 0, Zb 0, Zb 0, Zb 0, Zb 0, Zb 0, Zb 0, Zb 0, Zb 0, Zb 0, Zb 0, Zb 0, Zb 0, Zb 0, Zb 0, Zb 0, Zi 0, Zi 0, Zi 0, Zi 0], AV.agg [Zi 0, Zi 0], AV.agg [Zb 0, Zb 0, Zb 0, Zb 0, Zb 0, Zb 0, Zb 0, Zb 0, Zb 0, Zb 0, Zb 0, Zb 0, Zb 0, Zb 0, Zb 0, Zb 0, Zb 0, Zb 0, Zb 0, Zb 0, Zb 0, Zb 0, Zb 0, Zb 0, Zb 0, Zb 0, Zb 0, Zb 0, Zb 0, Zb 0, Zb 0, Zb 0, Zi 0, Zi (↑x0.1 : Int)]]) (Zi (chalN (Grp.q (Bas.gr exB)) (Spend.coin (exY ↑x0.1)) (Spend.level (exY ↑x0.1)) (Spend.index (exY ↑x0.1)) (Spend.cxt (exY ↑x0.1)))) (.br (chalN (11 : Int) (Spend.coin exX) (0 : Int) (0 : Int) (Spend.cxt exX) == chalN (11 : Int) (Spend.coin (exY ↑x0.1)) (0 : Int) (0 : Int) (Spend.cxt (exY ↑x0.1))) (.again (Again (0) (fun (x : { x : Nat // x ≤ (40 : Nat) }) => mkSt [1, 2, 11, 15] [AV.own (0) (6) (0) (0) (6), AV.own (1) (80) (0) (0) (80), AV.agg [Zi 0, Zi 0, Zi 0, Zi 0, Zi 8, Zb 0, Zb 0, Zb 0, Zb 0, Zb 0, Zb 0, Zb 0, Zb 0, Zb 0, Zb 0, Zb 0, Zb 0, Zb 0, Zb 0, Zb 0, Zb 0, Zb 0, Zb 0, Zb 0, Zb 0, Zb 0, Zb 0, Zb 0, Zb 0, Zb 0, Zb 0, Zb 0, Zb 0, Zb 0, Zb 0, Zb 0, Zb 0, Zi 0, Zi 0, Zi 0, Zi 0], Zi (↑(Subtype.val x) : Int)] [some { es := 6, n := 1, mu := true, f := Rep.lst [[Zi 23, Zi 11, Zi 4, Zi 2, Zi 3, Zi 6]] }, some { es := 80, n := 1, mu := true, f := Rep.lst [[Zi 0, Zi 0, Zi 0, Zi 0, Zi 8, Zb 0, Zb 0, Zb 0, Zb 0, Zb 0, Zb 0, Zb 0, Zb 0, Zb 0, Zb 0, Zb 0, Zb 0, Zb 0, Zb 0, Zb 0, Zb 0, Zb 0, Zb 0, Zb 0, Zb 0, Zb 0, Zb 0, Zb 0, Zb 0, Zb 0, Zb 0, Zb 0, Zb 0, Zb 0, Zb 0, Zb 0, Zb 0, Zi 0, Zi 0, Zi 0, Zi 0, Zi 0, Zi 0, Zb 0, Zb 0, Zb 0, Zb 0, Zb 0, Zb 0, Zb 0, Zb 0, Zb 0, Zb 0, Zb 0, Zb 0, Zb 0, Zb 0, Zb 0, Zb 0, Zb 0, Zb 0, Zb 0, Zb 0, Zb 0, Zb 0, Zb 0, Zb 0, Zb 0, Zb 0, Zb 0, Zb 0, Zb 0, Zb 0, Zb 0, Zb 0, Zi 0, Zi 0, AV.osl (2) (3) (0) (1), Zi 0, AV.nsl]] }, some { es := 3, n := 1, mu := true, f := Rep.lst [[Zi 4, Zi 4, Zi 9]] }]) (fun (x : { x : Nat // x ≤ (40 : Nat) }) => (40 : Nat) - Subtype.val x) x0) ([1, 2, 11, 15]) ([0, 1, 2]) ([AV.own (0) (6) (0) (0) (6), AV.own (1) (80) (0) (0) (80), AV.agg [Zi 0, Zi 0, Zi 0, Zi 0, Zi 8, Zb 0, Zb 0, Zb 0, Zb 0, Zb 0, Zb 0, Zb 0, Zb 0, Zb 0, Zb 0, Zb 0, Zb 0, Zb 0, Zb 0, Zb 0, Zb 0, Zb 0, Zb 0, Zb 0, Zb 0, Zb 0, Zb 0, Zb 0, Zb 0, Zb 0, Zb 0, Zb 0, Zb 0, Zb 0, Zb 0, Zb 0, Zb 0, Zi 0, Zi 0, Zi 0, Zi 0], Zi (IntKind.wrap IntKind.i64 ((↑x0.1 : Int) + (1 : Int)))]) ([some { es := 6, n := 1, mu := true, f := Rep.lst [[Zi 23, Zi 11, Zi 4, Zi 2, Zi 3, Zi 6]] }, some { es := 80, n := 1, mu := true, f := Rep.lst [[Zi 0, Zi 0, Zi 0, Zi 0, Zi 8, Zb 0, Zb 0, Zb 0, Zb 0, Zb 0, Zb 0, Zb 0, Zb 0, Zb 0, Zb 0, Zb 0, Zb 0, Zb 0, Zb 0, Zb 0, Zb 0, Zb 0, Zb 0, Zb 0, Zb 0, Zb 0, Zb 0, Zb 0, Zb 0, Zb 0, Zb 0, Zb 0, Zb 0, Zb 0, Zb 0, Zb 0, Zb 0, Zi 0, Zi 0, Zi 0, Zi 0, Zi 0, Zi 0, Zb 0, Zb 0, Zb 0, Zb 0, Zb 0, Zb 0, Zb 0, Zb 0, Zb 0, Zb 0, Zb 0, Zb 0, Zb 0, Zb 0, Zb 0, Zb 0, Zb 0, Zb 0, Zb 0, Zb 0, Zb 0, Zb 0, Zb 0, Zb 0, Zb 0, Zb 0, Zb 0, Zb 0, Zb 0, Zb 0, Zb 0, Zb 0, Zi 0, Zi 0, AV.osl (2) (3) (0) (1), Zi 0, AV.nsl]] }, some { es := 3, n := 1, mu := true, f := Rep.lst [[Zi 4, Zi 4, Zi 9]] }])) (.sc (true) 19 ([AV.agg [Zi 23, Zi 11, Zi 4, Zi 2, Zi 3, Zi 6], AV.agg [Zi 0, Zi 0, Zi 0, Zi 0, Zi 8, Zb 0, Zb 0, Zb 0, Zb 0, Zb 0, Zb 0, Zb 0, Zb 0, Zb 0, Zb 0, Zb 0, Zb 0, Zb 0, Zb 0, Zb 0, Zb 0, Zb 0, Zb 0, Zb 0, Zb 0, Zb 0, Zb 0, Zb 0, Zb 0, Zb 0, Zb 0, Zb 0, Zb 0, Zb 0, Zb 0, Zb 0, Zb 0, Zi 0, Zi 0, Zi 0, Zi 0, Zi 0, Zi 0, Zb 0, Zb 0, Zb 0, Zb 0, Zb 0, Zb 0, Zb 0, Zb 0, Zb 0, Zb 0, Zb 0, Zb 0, Zb 0, Zb 0, Zb 0, Zb 0, Zb 0, Zb 0, Zb 0, Zb 0, Zb 0, Zb 0, Zb 0, Zb 0, Zb 0, Zb 0, Zb 0, Zb 0, Zb 0, Zb 0, Zb 0, Zb 0, Zi 0, Zi 0, AV.isl (3) (1) fun (r k : Nat) => atL (List.getD [[Zi 4, Zi 4, Zi 9]] (r + 0) []) k, Zi 0, AV.nsl], AV.agg [Zi 0, Zi 0, Zi 0, Zi 0, Zi 8, Zb 0, Zb 0, Zb 0, Zb 0, Zb 0, Zb 0, Zb 0, Zb 0, Zb 0, Zb 0, Zb 0, Zb 0, Zb 0, Zb 0, Zb 0, Zb 0, Zb 0, Zb 0, Zb 0, Zb 0, Zb 0, Zb 0, Zb 0, Zb 0, Zb 0, Zb 0, Zb 0, Zb 0, Zb 0, Zb 0, Zb 0, Zb 0, Zi 0, Zi 0, Zi 0, Zi 0, Zi 0, Zi 0, Zb 0, Zb 0, Zb 0, Zb 0, Zb 0, Zb 0, Zb 0, Zb 0, Zb 0, Zb 0, Zb 0, Zb 0, Zb 0, Zb 0, Zb 0, Zb 0, Zb 0, Zb 0, Zb 0, Zb 0, Zb 0, Zb 0, Zb 0, Zb 0, Zb 0, Zb 0, Zb 0, Zb 0, Zb 0, Zb 0, Zb 0, Zb 0, Zi 0, Zi (↑x0.1 : Int), AV.isl (3) (1) fun (r k : Nat) => atL (List.getD [[Zi 4, Zi 6, Zi 1]] (r + 0) []) k, Zi 0, AV.nsl], Zi 0]) (AV.tup [Zi 8, Zi 0]) (.dc (true) 50 ([AV.agg [Zi 0, Zi 0, Zi 0, Zi 0, Zi 8, Zb 0, Zb 0, Zb 0, Zb 0, Zb 0, Zb 0, Zb 0, Zb 0, Zb 0, Zb 0, Zb 0, Zb 0, Zb 0, Zb 0, Zb 0, Zb 0, Zb 0, Zb 0, Zb 0, Zb 0, Zb 0, Zb 0, Zb 0, Zb 0, Zb 0, Zb 0, Zb 0, Zb 0, Zb 0, Zb 0, Zb 0, Zb 0, Zi 0, Zi 0, Zi 0, Zi 0, Zi 0, Zi 0, Zb 0, Zb 0, Zb 0, Zb 0, Zb 0, Zb 0, Zb 0, Zb 0, Zb 0, Zb 0, Zb 0, Zb 0, Zb 0, Zb 0, Zb 0, Zb 0, Zb 0, Zb 0, Zb 0, Zb 0, Zb 0, Zb 0, Zb 0, Zb 0, Zb 0, Zb 0, Zb 0, Zb 0, Zb 0, Zb 0, Zb 0, Zb 0, Zi 0, Zi 0, AV.isl (3) (1) fun (r k : Nat) => atL (List.getD [[Zi 4, Zi 4, Zi 9]] (r + 0) []) k, Zi 0, AV.nsl], AV.agg [Zi 0, Zi 0, Zi 0, Zi 0, Zi 8, Zb 0, Zb 0, Zb 0, Zb 0, Zb 0, Zb 0, Zb 0, Zb 0, Zb 0, Zb 0, Zb 0, Zb 0, Zb 0, Zb 0, Zb 0, Zb 0, Zb 0, Zb 0, Zb 0, Zb 0, Zb 0, Zb 0, Zb 0, Zb 0, Zb 0, Zb 0, Zb 0, Zb 0, Zb 0, Zb 0, Zb 0, Zb 0, Zi 0, Zi 0, Zi 0, Zi 0, Zi 0, Zi 0, Zb 0, Zb 0, Zb 0, Zb 0, Zb 0, Zb 0, Zb 0, Zb 0, Zb 0, Zb 0, Zb 0, Zb 0, Zb 0, Zb 0, Zb 0, Zb 0, Zb 0, Zb 0, Zb 0, Zb 0, Zb 0, Zb 0, Zb 0, Zb 0, Zb 0, Zb 0, Zb 0, Zb 0, Zb 0, Zb 0, Zb 0, Zb 0, Zi 0, Zi (↑x0.1 : Int), AV.isl (3) (1) fun (r k : Nat) => atL (List.getD [[Zi 4, Zi 6, Zi 1]] (r + 0) []) k, Zi 0, AV.nsl]]) (AV.tup [il IntKind.i64 [(0 : Int)], Zi 0]) (.sc (true) 51 ([AV.isl (1) (1) fun (i x : Nat) => Zi (List.getD [(0 : Int)] i (0 : Int)), AV.isl (1) (1) fun (r k : Nat) => atL (List.getD [[Zi 0]] (r + 0) []) k]) (AV.bool true) (.out (AV.bool true) [] (AV.bool true) []))))))) (.out (AV.bool true) [] (AV.bool true) []))))
    (by kernel_rfl) ?_
  --LOOPINFO kept [1, 2, 11] changed [15] objects [24, 72, 56]
  --LOOPINFO   obj 0: some { es := 6, n := 1, mu := true, f := Rep.lst [[Zi 23, Zi 11, Zi 4, Zi 2, Zi 3, Zi 6]] }
  --LOOPINFO   obj 1: some { es := 80, n := 1, mu := true, f := Rep.lst [[Zi 0, Zi 0, Zi 0, Zi 0, Zi 8, Zb 0, Zb 0, Zb 0, Zb 0, Zb 0, Zb 0, Zb 0, Zb 0, Zb 0, Zb 0, Zb 0, Zb 0, Zb 0, Zb 0, Zb 0, Zb 0, Zb 0, Zb 0, Zb 0, Zb 0, Zb 0, Zb 0, Zb 0, Zb 0, Zb 0, Zb 0, Zb 0, Zb 0, Zb 0, Zb 0, Zb 0, Zb 0, Zi 0, Zi 0, Zi 0, Zi 0, Zi 0, Zi 0, Zb 0, Zb 0, Zb 0, Zb 0, Zb 0, Zb 0, Zb 0, Zb 0, Zb 0, Zb 0, Zb 0, Zb 0, Zb 0, Zb 0, Zb 0, Zb 0, Zb 0, Zb 0, Zb 0, Zb 0, Zb 0, Zb 0, Zb 0, Zb 0, Zb 0, Zb 0, Zb 0, Zb 0, Zb 0, Zb 0, Zb 0, Zb 0, Zi 0, Zi 0, AV.osl (2) (3) (0) (1), Zi 0, AV.nsl]] }
  --LOOPINFO   obj 2: some { es := 3, n := 1, mu := true, f := Rep.lst [[Zi 4, Zi 4, Zi 9]] }
  refine k_loop (fun _ hs => hs.le (by repeat' (first | exact trivial | (first | exact Ent.refl _ | exact inc_ent (by omega) | exact Ent.nil rfl | exact Ent.of_eq (congrArg (AV.osl _ _ _) (by first | omega | (dsimp only; omega))) | exact Ent.of_eq (congrArg (AV.int _) (by first | omega | (dsimp only; omega)))) | refine And.intro ?_ ?_)) (by repeat' (first | exact trivial | (first | exact ObEnt.refl _ | exact ObEnt.junk | exact ObEnt.zero | exact ObEnt.push rfl rfl | exact ObEnt.pushRow rfl | exact ObEnt.len (by omega) | exact ObEnt.row (by repeat' (first | exact trivial | (first | exact Ent.refl _ | exact inc_ent (by omega) | exact Ent.nil rfl | exact Ent.of_eq (congrArg (AV.osl _ _ _) (by first | omega | (dsimp only; omega))) | exact Ent.of_eq (congrArg (AV.int _) (by first | omega | (dsimp only; omega)))) | refine And.intro ?_ ?_))) | refine And.intro ?_ ?_))) (fun x0 => ?_)
  try (have q0 := x0.2; dsimp only at q0)
  refine k_br (fun h1 => ?_) (fun h1 => ?_)
  · have g1 := cnd_dec_t h1
    refine k_sc (c1) ?_
    refine k_sc (c2 (↑x0.1)) ?_
    refine k_br (fun h4 => ?_) (fun h4 => ?_)
    · have g4 := cnd_beq_t h4
      exact k_again (⟨x0.1 + 1, by omega⟩) (fun _ hs => hs.le (by repeat' (first | exact trivial | (first | exact Ent.refl _ | exact inc_ent (by omega) | exact Ent.nil rfl | exact Ent.of_eq (congrArg (AV.osl _ _ _) (by first | omega | (dsimp only; omega))) | exact Ent.of_eq (congrArg (AV.int _) (by first | omega | (dsimp only; omega)))) | refine And.intro ?_ ?_)) (by repeat' (first | exact trivial | (first | exact ObEnt.refl _ | exact ObEnt.junk | exact ObEnt.zero | exact ObEnt.push rfl rfl | exact ObEnt.pushRow rfl | exact ObEnt.len (by omega) | exact ObEnt.row (by repeat' (first | exact trivial | (first | exact Ent.refl _ | exact inc_ent (by omega) | exact Ent.nil rfl | exact Ent.of_eq (congrArg (AV.osl _ _ _) (by first | omega | (dsimp only; omega))) | exact Ent.of_eq (congrArg (AV.int _) (by first | omega | (dsimp only; omega)))) | refine And.intro ?_ ?_))) | refine And.intro ?_ ?_))) (by first | omega | (dsimp only; omega) | (simp; omega))
    · have g4 := cnd_beq_f h4
      refine k_sc (ex_secret_c (↑x0.1) (by first | assumption | omega) (by first | assumption | omega) (by first | assumption | omega)) ?_
      refine k_dc (ex_shared_c (↑x0.1) (by first | assumption | omega) (by first | assumption | omega)) ?_
      refine k_sc (eq0_c) ?_
      exact k_out (Ent.of_eq (by first | rfl | simp_all))
  · have g1 := cnd_dec_f h1
    exact k_out (Ent.of_eq (by first | rfl | simp_all))

end Go.Proofs.YtmhipmiacghgeaaGreatDoor

namespace Go.Proofs.YtmhipmiacghgeaaGreatDoor
open Go Go.Am Go.Sp
set_option maxRecDepth 100000

theorem cloneL_n : Gives Tryz.prog gl0 117 [] [.nsl] .nsl [] := by
  refine gives_sk (own := ow0) (hand := true) Tryz.func117 (by kernel_rfl) mixed (by kernel_rfl)
    (.tt (.out (AV.nsl) [] (AV.nsl) []))
    (by kernel_rfl) ?_
  refine k_tt ?_
  exact k_out (Ent.refl _)

theorem cloneL_s (f : Nat → Nat → Int) (n : Nat) (hn : n ≤ 1000) : Gives Tryz.prog gl0 117 [] [.nn (lvs n f)] (.osl 0 3 0 n) [some ⟨3, n, true, .fn fun i j => .int .i64 (f i j)⟩] := by
  refine gives_sk (own := ow0) (hand := true) Tryz.func117 (by kernel_rfl) mixed (by kernel_rfl)
    (.ff (.req ((0 + n) * 24 ≤ 140737488355328) (.out (AV.osl (0) (3) (0) (0 + n)) ([some { es := 3, n := 0 + n, mu := true, f := Rep.fn fun (i j : Nat) => Zi (f i j) }]) (AV.osl (0 : Nat) (3 : Nat) (0 : Nat) n) ([some { es := (3 : Nat), n := n, mu := true, f := Rep.fn fun (i j : Nat) => Zi (f i j) }]))))
    (by kernel_rfl) ?_
  refine k_ff ?_
  refine k_req (by first | omega | (simp only [Int.toNat_natCast]; omega)) ?_
  exact k_outg (Ent.of_eq (by simp)) (⟨⟨rfl, by simp, rfl, fun i j _ _ => Ent.of_eq (by simp)⟩, trivial⟩)

theorem cloneH_n : Gives Tryz.prog gl0 118 [] [.nsl] .nsl [] := by
  refine gives_sk (own := ow0) (hand := true) Tryz.func118 (by kernel_rfl) mixed (by kernel_rfl)
    (.tt (.out (AV.nsl) [] (AV.nsl) []))
    (by kernel_rfl) ?_
  refine k_tt ?_
  exact k_out (Ent.refl _)

theorem cloneH_s (f : Nat → Nat → Int) (n : Nat) (hn : n ≤ 1000) : Gives Tryz.prog gl0 118 [] [.nn (hss n f)] (.osl 0 32 0 n) [some ⟨32, n, true, .fn fun i j => .int .u8 (f i j)⟩] := by
  refine gives_sk (own := ow0) (hand := true) Tryz.func118 (by kernel_rfl) mixed (by kernel_rfl)
    (.ff (.req ((0 + n) * 32 ≤ 140737488355328) (.out (AV.osl (0) (32) (0) (0 + n)) ([some { es := 32, n := 0 + n, mu := true, f := Rep.fn fun (i j : Nat) => Zb (f i j) }]) (AV.osl (0 : Nat) (32 : Nat) (0 : Nat) n) ([some { es := (32 : Nat), n := n, mu := true, f := Rep.fn fun (i j : Nat) => Zb (f i j) }]))))
    (by kernel_rfl) ?_
  refine k_ff ?_
  refine k_req (by first | omega | (simp only [Int.toNat_natCast]; omega)) ?_
  exact k_outg (Ent.of_eq (by simp)) (⟨⟨rfl, by simp, rfl, fun i j _ _ => Ent.of_eq (by simp)⟩, trivial⟩)

theorem cloneL_c (f : Nat → Nat → Int) (n : Nat) (hn : n ≤ 1000) : Gives Tryz.prog gl0 117 [] [lvs n f] (.osl 0 3 0 n) [some ⟨3, n, true, .fn fun i j => .int .i64 (f i j)⟩] :=
  Gives.nilSplit [] [] 3 n _ (fun h => by subst h; exact cloneL_n.nil 3 _) (cloneL_s f n hn)

theorem cloneH_c (f : Nat → Nat → Int) (n : Nat) (hn : n ≤ 1000) : Gives Tryz.prog gl0 118 [] [hss n f] (.osl 0 32 0 n) [some ⟨32, n, true, .fn fun i j => .int .u8 (f i j)⟩] :=
  Gives.nilSplit [] [] 32 n _ (fun h => by subst h; exact cloneH_n.nil 32 _) (cloneH_s f n hn)

/-- Which functions hand over what they make. -/
def owR : FuncId → Option (List Bool) := fun f => bif Nat.beq f 117 || Nat.beq f 118 || Nat.beq f 76 || Nat.beq f 78 then some [false] else none

theorem copied_c (s : Spend) (hl : s.nl ≤ 1000) (hp : s.np ≤ 1000) : Gives Tryz.prog gl0 76 [] [s.av] (.agg (s.cw (.osl 0 3 0 s.nl) (.osl 1 32 0 s.np))) [some ⟨3, s.nl, true, .fn fun i j => .int .i64 (s.lf i j)⟩, some ⟨32, s.np, true, .fn fun i j => .int .u8 (s.pf i j)⟩] := by
  refine gives_sk (own := owR) (hand := true) Tryz.func76 (by kernel_rfl) mixed (by kernel_rfl)
    (.gc 117 ([]) ([AV.isl (3) s.16 fun (i j : Nat) => Zi (s.17 i j)]) (AV.osl (0 : Nat) (3 : Nat) (0 : Nat) s.16) ([some { es := (3 : Nat), n := s.16, mu := true, f := Rep.fn fun (i j : Nat) => Zi (s.17 i j) }]) (.gc 118 ([]) ([AV.isl (32) s.19 fun (i j : Nat) => Zb (s.20 i j)]) (AV.osl (0 : Nat) (32 : Nat) (0 : Nat) s.19) ([some { es := (32 : Nat), n := s.19, mu := true, f := Rep.fn fun (i j : Nat) => Zb (s.20 i j) }]) (.out (AV.agg (Zi s.1 :: Zi s.2 :: Zi s.3 :: Zi s.4 :: Zi s.5 :: (u8c s.6 ++ Zi s.7 :: Zi s.8 :: Zi s.9 :: Zi s.10 :: Zi s.11 :: Zi s.12 :: (u8c s.13 ++ [Zi s.14, Zi s.15, AV.osl (0) (3) (0) s.16, Zi s.18, AV.osl (1) (32) (0) s.19])))) ([some { es := 3, n := s.16, mu := true, f := Rep.fn fun (i j : Nat) => Zi (s.17 i j) }, some { es := 32, n := s.19, mu := true, f := Rep.fn fun (i j : Nat) => Zb (s.20 i j) }]) (AV.agg (Spend.cw s (AV.osl (0 : Nat) (3 : Nat) (0 : Nat) (Spend.nl s)) (AV.osl (1 : Nat) (32 : Nat) (0 : Nat) (Spend.np s)))) ([some { es := (3 : Nat), n := Spend.nl s, mu := true, f := Rep.fn fun (i j : Nat) => Zi (Spend.lf s i j) }, some { es := (32 : Nat), n := Spend.np s, mu := true, f := Rep.fn fun (i j : Nat) => Zb (Spend.pf s i j) }]))))
    (by kernel_rfl) ?_
  refine k_gc (cloneL_c (s.17) (s.16) (by first | assumption | omega)) ?_
  refine k_gc (cloneH_c (s.20) (s.19) (by first | assumption | omega)) ?_
  exact k_outg (Ent.refl _) (ObsEnt.refl _)

theorem rcopied_c (s : Spend) (hl : s.nl ≤ 1000) (hp : s.np ≤ 1000) : Gives Tryz.prog gl0 78 [] [s.av] (.agg (s.cw (.osl 0 3 0 s.nl) (.osl 1 32 0 s.np))) [some ⟨3, s.nl, true, .fn fun i j => .int .i64 (s.lf i j)⟩, some ⟨32, s.np, true, .fn fun i j => .int .u8 (s.pf i j)⟩] := by
  refine gives_sk (own := owR) (hand := true) Tryz.func78 (by kernel_rfl) mixed (by kernel_rfl)
    (.loop (Sp.Sub fun (x : Nat) => x ≤ Spend.nl s) (fun (x : Sp.Sub fun (x : Nat) => x ≤ Spend.nl s) => mkSt [1, 2, 3, 4] [AV.own (0 : Nat) (80 : Nat) (0 : Nat) (0 : Nat) (80 : Nat), AV.own (1 : Nat) (80 : Nat) (0 : Nat) (0 : Nat) (80 : Nat), AV.own (2 : Nat) (80 : Nat) (0 : Nat) (0 : Nat) (80 : Nat), Zi (↑(Subtype.val x) : Int)] [some { es := (80 : Nat), n := (1 : Nat), mu := true, f := Rep.lst [Spend.cells s] }, some { es := (80 : Nat), n := (1 : Nat), mu := true, f := Rep.fn fun (x x_1 : Nat) => AV.junk }, some { es := (80 : Nat), n := (1 : Nat), mu := true, f := Rep.lst [Spend.cw s (AV.osl (3 : Nat) (3 : Nat) (0 : Nat) (Subtype.val x)) AV.nsl] }, some { es := (3 : Nat), n := Subtype.val x, mu := true, f := Rep.fn fun (i j : Nat) => Zi (Spend.lf s i j) }]) (fun (x : Sp.Sub fun (x : Nat) => x ≤ Spend.nl s) => Spend.nl s - Subtype.val x) (⟨(0 : Nat), Nat.zero_le (Spend.nl s)⟩) ([1, 2, 3, 4]) ([0, 8, 24, 859]) ([AV.own (0) (80) (0) (0) (80), AV.own (1) (80) (0) (0) (80), AV.own (2) (80) (0) (0) (80), Zi 0]) ([some { es := 80, n := 1, mu := true, f := Rep.lst [Spend.cells s] }, some { es := 80, n := 1, mu := true, f := Rep.lst [[Zi 0, Zi 0, Zi 0, Zi 0, Zi 0, Zb 0, Zb 0, Zb 0, Zb 0, Zb 0, Zb 0, Zb 0, Zb 0, Zb 0, Zb 0, Zb 0, Zb 0, Zb 0, Zb 0, Zb 0, Zb 0, Zb 0, Zb 0, Zb 0, Zb 0, Zb 0, Zb 0, Zb 0, Zb 0, Zb 0, Zb 0, Zb 0, Zb 0, Zb 0, Zb 0, Zb 0, Zb 0, Zi 0, Zi 0, Zi 0, Zi 0, Zi 0, Zi 0, Zb 0, Zb 0, Zb 0, Zb 0, Zb 0, Zb 0, Zb 0, Zb 0, Zb 0, Zb 0, Zb 0, Zb 0, Zb 0, Zb 0, Zb 0, Zb 0, Zb 0, Zb 0, Zb 0, Zb 0, Zb 0, Zb 0, Zb 0, Zb 0, Zb 0, Zb 0, Zb 0, Zb 0, Zb 0, Zb 0, Zb 0, Zb 0, Zi 0, Zi 0, AV.nsl, Zi 0, AV.nsl]] }, some { es := 80, n := 1, mu := true, f := Rep.lst [Zi (Spend.bank s) :: Zi (Spend.epoch s) :: Zi (Spend.denom s) :: Zi (Spend.depth s) :: Zi (Spend.a s) :: (u8c (Spend.root s) ++ Zi (Spend.z s) :: Zi (Spend.sa s) :: Zi (Spend.sb s) :: Zi (Spend.r s) :: Zi (Spend.level s) :: Zi (Spend.index s) :: (u8c (Spend.payee s) ++ [Zi (Spend.time s), Zi (Spend.number s), AV.nsl, Zi (Spend.pidx s), AV.nsl]))] }, some { es := 3, n := 0, mu := true, f := Rep.lst [] }]) (fun x0 => (.br (decide ((↑x0.1 : Int) < (↑s.16 : Int))) (.req ((0 : Int) ≤ (↑x0.1 : Int) ∧ (↑x0.1 : Int) < (↑s.16 : Int)) (.req ((x0.1 + 1) * 24 ≤ 140737488355328) (.again (Again (0) (fun (x : Sp.Sub fun (x : Nat) => x ≤ Spend.nl s) => mkSt [1, 2, 3, 4] [AV.own (0 : Nat) (80 : Nat) (0 : Nat) (0 : Nat) (80 : Nat), AV.own (1 : Nat) (80 : Nat) (0 : Nat) (0 : Nat) (80 : Nat), AV.own (2 : Nat) (80 : Nat) (0 : Nat) (0 : Nat) (80 : Nat), Zi (↑(Subtype.val x) : Int)] [some { es := (80 : Nat), n := (1 : Nat), mu := true, f := Rep.lst [Spend.cells s] }, some { es := (80 : Nat), n := (1 : Nat), mu := true, f := Rep.fn fun (x x_1 : Nat) => AV.junk }, some { es := (80 : Nat), n := (1 : Nat), mu := true, f := Rep.lst [Spend.cw s (AV.osl (3 : Nat) (3 : Nat) (0 : Nat) (Subtype.val x)) AV.nsl] }, some { es := (3 : Nat), n := Subtype.val x, mu := true, f := Rep.fn fun (i j : Nat) => Zi (Spend.lf s i j) }]) (fun (x : Sp.Sub fun (x : Nat) => x ≤ Spend.nl s) => Spend.nl s - Subtype.val x) x0) ([1, 2, 3, 4]) ([0, 1, 2, 108]) ([AV.own (0) (80) (0) (0) (80), AV.own (1) (80) (0) (0) (80), AV.own (2) (80) (0) (0) (80), Zi (IntKind.wrap IntKind.i64 ((↑x0.1 : Int) + (1 : Int)))]) ([some { es := 80, n := 1, mu := true, f := Rep.lst [Spend.cells s] }, some { es := 80, n := 1, mu := true, f := Rep.fn fun (i j : Nat) => AV.junk }, some { es := 80, n := 1, mu := true, f := Rep.lst [Zi (Spend.bank s) :: Zi (Spend.epoch s) :: Zi (Spend.denom s) :: Zi (Spend.depth s) :: Zi (Spend.a s) :: (u8c (Spend.root s) ++ Zi (Spend.z s) :: Zi (Spend.sa s) :: Zi (Spend.sb s) :: Zi (Spend.r s) :: Zi (Spend.level s) :: Zi (Spend.index s) :: (u8c (Spend.payee s) ++ [Zi (Spend.time s), Zi (Spend.number s), AV.osl (3) (3) (0) (x0.1 + 1), Zi (Spend.pidx s), AV.nsl]))] }, some { es := 3, n := x0.1 + 1, mu := true, f := Rep.fn fun (i j : Nat) => Zi (bif Nat.blt i x0.1 then s.17 i j else intOfAV (atL [Zi (Spend.lf s (Int.toNat (↑(Subtype.val x0) : Int)) (0)), Zi (Spend.lf s (Int.toNat (↑(Subtype.val x0) : Int)) (1)), Zi (Spend.lf s (Int.toNat (↑(Subtype.val x0) : Int)) (2))] j)) }])))) (.loop (Sp.Sub fun (x : Nat) => x ≤ Spend.np s) (fun (x : Sp.Sub fun (x : Nat) => x ≤ Spend.np s) => mkSt [1, 2, 3, 5] [AV.own (0 : Nat) (80 : Nat) (0 : Nat) (0 : Nat) (80 : Nat), AV.own (1 : Nat) (80 : Nat) (0 : Nat) (0 : Nat) (80 : Nat), AV.own (2 : Nat) (80 : Nat) (0 : Nat) (0 : Nat) (80 : Nat), Zi (↑(Subtype.val x) : Int)] [some { es := (80 : Nat), n := (1 : Nat), mu := true, f := Rep.lst [Spend.cells s] }, some { es := (80 : Nat), n := (1 : Nat), mu := true, f := Rep.fn fun (x x_1 : Nat) => AV.junk }, some { es := (80 : Nat), n := (1 : Nat), mu := true, f := Rep.lst [Spend.cw s (AV.osl (3 : Nat) (3 : Nat) (0 : Nat) (Spend.nl s)) (AV.osl (4 : Nat) (32 : Nat) (0 : Nat) (Subtype.val x))] }, some { es := (3 : Nat), n := Spend.nl s, mu := true, f := Rep.fn fun (i j : Nat) => Zi (Spend.lf s i j) }, some { es := (32 : Nat), n := Subtype.val x, mu := true, f := Rep.fn fun (i j : Nat) => Zb (Spend.pf s i j) }]) (fun (x : Sp.Sub fun (x : Nat) => x ≤ Spend.np s) => Spend.np s - Subtype.val x) (⟨(0 : Nat), Nat.zero_le (Spend.np s)⟩) ([1, 2, 3, 5]) ([0, 1, 2, 3, 8248]) ([AV.own (0) (80) (0) (0) (80), AV.own (1) (80) (0) (0) (80), AV.own (2) (80) (0) (0) (80), Zi 0]) ([some { es := 80, n := 1, mu := true, f := Rep.lst [Spend.cells s] }, some { es := 80, n := 1, mu := true, f := Rep.fn fun (i j : Nat) => AV.junk }, some { es := 80, n := 1, mu := true, f := Rep.lst [Zi (Spend.bank s) :: Zi (Spend.epoch s) :: Zi (Spend.denom s) :: Zi (Spend.depth s) :: Zi (Spend.a s) :: (u8c (Spend.root s) ++ Zi (Spend.z s) :: Zi (Spend.sa s) :: Zi (Spend.sb s) :: Zi (Spend.r s) :: Zi (Spend.level s) :: Zi (Spend.index s) :: (u8c (Spend.payee s) ++ [Zi (Spend.time s), Zi (Spend.number s), AV.osl (3) (3) (0) x0.1, Zi (Spend.pidx s), AV.nsl]))] }, some { es := 3, n := x0.1, mu := true, f := Rep.fn fun (i j : Nat) => Zi (Spend.lf s i j) }, some { es := 32, n := 0, mu := true, f := Rep.lst [] }]) (fun x5 => (.br (decide ((↑x5.1 : Int) < (↑s.19 : Int))) (.req ((0 : Int) ≤ (↑x5.1 : Int) ∧ (↑x5.1 : Int) < (↑s.19 : Int)) (.req ((x5.1 + 1) * 32 ≤ 140737488355328) (.again (Again (0) (fun (x : Sp.Sub fun (x : Nat) => x ≤ Spend.np s) => mkSt [1, 2, 3, 5] [AV.own (0 : Nat) (80 : Nat) (0 : Nat) (0 : Nat) (80 : Nat), AV.own (1 : Nat) (80 : Nat) (0 : Nat) (0 : Nat) (80 : Nat), AV.own (2 : Nat) (80 : Nat) (0 : Nat) (0 : Nat) (80 : Nat), Zi (↑(Subtype.val x) : Int)] [some { es := (80 : Nat), n := (1 : Nat), mu := true, f := Rep.lst [Spend.cells s] }, some { es := (80 : Nat), n := (1 : Nat), mu := true, f := Rep.fn fun (x x_1 : Nat) => AV.junk }, some { es := (80 : Nat), n := (1 : Nat), mu := true, f := Rep.lst [Spend.cw s (AV.osl (3 : Nat) (3 : Nat) (0 : Nat) (Spend.nl s)) (AV.osl (4 : Nat) (32 : Nat) (0 : Nat) (Subtype.val x))] }, some { es := (3 : Nat), n := Spend.nl s, mu := true, f := Rep.fn fun (i j : Nat) => Zi (Spend.lf s i j) }, some { es := (32 : Nat), n := Subtype.val x, mu := true, f := Rep.fn fun (i j : Nat) => Zb (Spend.pf s i j) }]) (fun (x : Sp.Sub fun (x : Nat) => x ≤ Spend.np s) => Spend.np s - Subtype.val x) x5) ([1, 2, 3, 5]) ([0, 1, 2, 3, 133]) ([AV.own (0) (80) (0) (0) (80), AV.own (1) (80) (0) (0) (80), AV.own (2) (80) (0) (0) (80), Zi (IntKind.wrap IntKind.i64 ((↑x5.1 : Int) + (1 : Int)))]) ([some { es := 80, n := 1, mu := true, f := Rep.lst [Spend.cells s] }, some { es := 80, n := 1, mu := true, f := Rep.fn fun (i j : Nat) => AV.junk }, some { es := 80, n := 1, mu := true, f := Rep.lst [Zi (Spend.bank s) :: Zi (Spend.epoch s) :: Zi (Spend.denom s) :: Zi (Spend.depth s) :: Zi (Spend.a s) :: (u8c (Spend.root s) ++ Zi (Spend.z s) :: Zi (Spend.sa s) :: Zi (Spend.sb s) :: Zi (Spend.r s) :: Zi (Spend.level s) :: Zi (Spend.index s) :: (u8c (Spend.payee s) ++ [Zi (Spend.time s), Zi (Spend.number s), AV.osl (3) (3) (0) s.16, Zi (Spend.pidx s), AV.osl (4) (32) (0) (x5.1 + 1)]))] }, some { es := 3, n := s.16, mu := true, f := Rep.fn fun (i j : Nat) => Zi (Spend.lf s i j) }, some { es := 32, n := x5.1 + 1, mu := true, f := Rep.fn fun (i j : Nat) => Zb (bif Nat.blt i x5.1 then s.20 i j else intOfAV (atL (u8c (Spend.pf s (Int.toNat (↑(Subtype.val x5) : Int)))) j)) }])))) (.out (AV.agg (Zi s.1 :: Zi s.2 :: Zi s.3 :: Zi s.4 :: Zi s.5 :: (u8c s.6 ++ Zi s.7 :: Zi s.8 :: Zi s.9 :: Zi s.10 :: Zi s.11 :: Zi s.12 :: (u8c s.13 ++ [Zi s.14, Zi s.15, AV.osl (0) (3) (0) s.16, Zi s.18, AV.osl (1) (32) (0) x5.1])))) ([some { es := 3, n := s.16, mu := true, f := Rep.fn fun (i j : Nat) => Zi (Spend.lf s i j) }, some { es := 32, n := x5.1, mu := true, f := Rep.fn fun (i j : Nat) => Zb (Spend.pf s i j) }]) (AV.agg (Spend.cw s (AV.osl (0 : Nat) (3 : Nat) (0 : Nat) (Spend.nl s)) (AV.osl (1 : Nat) (32 : Nat) (0 : Nat) (Spend.np s)))) ([some { es := (3 : Nat), n := Spend.nl s, mu := true, f := Rep.fn fun (i j : Nat) => Zi (Spend.lf s i j) }, some { es := (32 : Nat), n := Spend.np s, mu := true, f := Rep.fn fun (i j : Nat) => Zb (Spend.pf s i j) }]))))))))
    (by kernel_rfl) ?_
  refine k_loop (fun _ hs => hs.le (by repeat' (first | exact trivial | (first | exact Ent.refl _ | exact inc_ent (by omega) | exact Ent.nil rfl | exact Ent.of_eq (congrArg (AV.osl _ _ _) (by first | omega | (dsimp only; omega))) | exact Ent.of_eq (congrArg (AV.int _) (by first | omega | (dsimp only; omega)))) | refine And.intro ?_ ?_)) (⟨.refl _, .junk, .row (cw_ent s (Ent.nil rfl) (Ent.refl _)), .zero, trivial⟩)) (fun x0 => ?_)
  try (have q0 := x0.2; dsimp only at q0)
  refine k_br (fun h1 => ?_) (fun h1 => ?_)
  · have g1 := cnd_dec_t h1
    refine k_req (by have := of_decide_eq_true h1; omega) ?_
    refine k_req (by have := of_decide_eq_true h1; omega) ?_
    exact k_again (⟨x0.1 + 1, by have := of_decide_eq_true h1; omega⟩) (fun _ hs => hs.le (⟨Ent.refl _, Ent.refl _, Ent.refl _, inc_ent (by have := x0.2; omega), trivial⟩) (⟨.refl _, .junk, .refl _, .push rfl rfl, trivial⟩)) (by have := of_decide_eq_true h1; show s.nl - (x0.1 + 1) < s.nl - x0.1; omega)
  · have g1 := cnd_dec_f h1
    refine k_loop (fun _ hs => hs.le (by repeat' (first | exact trivial | (first | exact Ent.refl _ | exact inc_ent (by omega) | exact Ent.nil rfl | exact Ent.of_eq (congrArg (AV.osl _ _ _) (by first | omega | (dsimp only; omega))) | exact Ent.of_eq (congrArg (AV.int _) (by first | omega | (dsimp only; omega)))) | refine And.intro ?_ ?_)) (⟨.refl _, .junk, .row (cw_ent s (Ent.of_eq (by have := of_decide_eq_false h1; have := x0.2; congr 1; omega)) (Ent.nil rfl)), .len (by have := of_decide_eq_false h1; have := x0.2; omega), .zero, trivial⟩)) (fun x5 => ?_)
    try (have q5 := x5.2; dsimp only at q5)
    refine k_br (fun h6 => ?_) (fun h6 => ?_)
    · have g6 := cnd_dec_t h6
      refine k_req (by have := of_decide_eq_true h6; omega) ?_
      refine k_req (by have := of_decide_eq_true h6; omega) ?_
      exact k_again (⟨x5.1 + 1, by have := of_decide_eq_true h6; omega⟩) (fun _ hs => hs.le (⟨Ent.refl _, Ent.refl _, Ent.refl _, inc_ent (by have := x5.2; omega), trivial⟩) (⟨.refl _, .junk, .refl _, .refl _, .push rfl rfl, trivial⟩)) (by have := of_decide_eq_true h6; show s.np - (x5.1 + 1) < s.np - x5.1; omega)
    · have g6 := cnd_dec_f h6
      exact k_outg (Ent.of_eq (congrArg AV.agg (congrArg (s.cw _) (by have := of_decide_eq_false h6; have := x5.2; congr 1; omega)))) (⟨.refl _, .len (by have := of_decide_eq_false h6; have := x5.2; omega), trivial⟩)

theorem same27_c (i : Int) (n : Nat) (f : Nat → Nat → Int) (hn : n ≤ 100000) : Pure Tryz.prog gl0 119 [.agg [.int .i64 i, hss n f], .agg [.int .i64 i, hss n f]] (.bool true) := by
  refine pure_sk (own := ow0) Tryz.func119 (by kernel_rfl) mixed (by kernel_rfl)
    (.br (i != i || (↑n : Int) != (↑n : Int)) (.out (AV.bool false) [] (AV.bool true) []) (.loop (Sp.Sub fun (x : Nat) => x ≤ n) (fun (x : Sp.Sub fun (x : Nat) => x ≤ n) => mkSt [2, 3, 5] [AV.own (0 : Nat) (2 : Nat) (0 : Nat) (0 : Nat) (2 : Nat), AV.own (1 : Nat) (2 : Nat) (0 : Nat) (0 : Nat) (2 : Nat), Zi (↑(Subtype.val x) : Int)] [some { es := (2 : Nat), n := (1 : Nat), mu := true, f := Rep.lst [[Zi i, hss n f]] }, some { es := (2 : Nat), n := (1 : Nat), mu := true, f := Rep.lst [[Zi i, hss n f]] }]) (fun (x : Sp.Sub fun (x : Nat) => x ≤ n) => n - Subtype.val x) (⟨(0 : Nat), Nat.zero_le n⟩) ([2, 3, 5]) ([0, 8]) ([AV.own (0) (2) (0) (0) (2), AV.own (1) (2) (0) (0) (2), Zi 0]) ([some { es := 2, n := 1, mu := true, f := Rep.lst [[Zi i, AV.isl (32) n fun (i j : Nat) => Zb (f i j)]] }, some { es := 2, n := 1, mu := true, f := Rep.lst [[Zi i, AV.isl (32) n fun (i j : Nat) => Zb (f i j)]] }]) (fun x2 => (.br (decide ((↑x2.1 : Int) < (↑n : Int))) (.req ((0 : Int) ≤ (↑x2.1 : Int) ∧ (↑x2.1 : Int) < (↑n : Int)) (.req ((0 : Int) ≤ (↑x2.1 : Int) ∧ (↑x2.1 : Int) < (↑n : Int)) (.br (!(f (Int.toNat (↑x2.1 : Int)) (0) == f (Int.toNat (↑x2.1 : Int)) (0) && (f (Int.toNat (↑x2.1 : Int)) (1) == f (Int.toNat (↑x2.1 : Int)) (1) && (f (Int.toNat (↑x2.1 : Int)) (2) == f (Int.toNat (↑x2.1 : Int)) (2) && (f (Int.toNat (↑x2.1 : Int)) (3) == f (Int.toNat (↑x2.1 : Int)) (3) && (f (Int.toNat (↑x2.1 : Int)) (4) == f (Int.toNat (↑x2.1 : Int)) (4) && (f (Int.toNat (↑x2.1 : Int)) (5) == f (Int.toNat (↑x2.1 : Int)) (5) && (f (Int.toNat (↑x2.1 : Int)) (6) == f (Int.toNat (↑x2.1 : Int)) (6) && (f (Int.toNat (↑x2.1 : Int)) (7) == f (Int.toNat (↑x2.1 : Int)) (7) && (f (Int.toNat (↑x2.1 : Int)) (8) == f (Int.toNat (↑x2.1 : Int)) (8) && (f (Int.toNat (↑x2.1 : Int)) (9) == f (Int.toNat (↑x2.1 : Int)) (9) && (f (Int.toNat (↑x2.1 : Int)) (10) == f (Int.toNat (↑x2.1 : Int)) (10) && (f (Int.toNat (↑x2.1 : Int)) (11) == f (Int.toNat (↑x2.1 : Int)) (11) && (f (Int.toNat (↑x2.1 : Int)) (12) == f (Int.toNat (↑x2.1 : Int)) (12) && (f (Int.toNat (↑x2.1 : Int)) (13) == f (Int.toNat (↑x2.1 : Int)) (13) && (f (Int.toNat (↑x2.1 : Int)) (14) == f (Int.toNat (↑x2.1 : Int)) (14) && (f (Int.toNat (↑x2.1 : Int)) (15) == f (Int.toNat (↑x2.1 : Int)) (15) && (f (Int.toNat (↑x2.1 : Int)) (16) == f (Int.toNat (↑x2.1 : Int)) (16) && (f (Int.toNat (↑x2.1 : Int)) (17) == f (Int.toNat (↑x2.1 : Int)) (17) && (f (Int.toNat (↑x2.1 : Int)) (18) == f (Int.toNat (↑x2.1 : Int)) (18) && (f (Int.toNat (↑x2.1 : Int)) (19) == f (Int.toNat (↑x2.1 : Int)) (19) && (f (Int.toNat (↑x2.1 : Int)) (20) == f (Int.toNat (↑x2.1 : Int)) (20) && (f (Int.toNat (↑x2.1 : Int)) (21) == f (Int.toNat (↑x2.1 : Int)) (21) && (f (Int.toNat (↑x2.1 : Int)) (22) == f (Int.toNat (↑x2.1 : Int)) (22) && (f (Int.toNat (↑x2.1 : Int)) (23) == f (Int.toNat (↑x2.1 : Int)) (23) && (f (Int.toNat (↑x2.1 : Int)) (24) == f (Int.toNat (↑x2.1 : Int)) (24) && (f (Int.toNat (↑x2.1 : Int)) (25) == f (Int.toNat (↑x2.1 : Int)) (25) && (f (Int.toNat (↑x2.1 : Int)) (26) == f (Int.toNat (↑x2.1 : Int)) (26) && (f (Int.toNat (↑x2.1 : Int)) (27) == f (Int.toNat (↑x2.1 : Int)) (27) && (f (Int.toNat (↑x2.1 : Int)) (28) == f (Int.toNat (↑x2.1 : Int)) (28) && (f (Int.toNat (↑x2.1 : Int)) (29) == f (Int.toNat (↑x2.1 : Int)) (29) && (f (Int.toNat (↑x2.1 : Int)) (30) == f (Int.toNat (↑x2.1 : Int)) (30) && (f (Int.toNat (↑x2.1 : Int)) (31) == f (Int.toNat (↑x2.1 : Int)) (31) && true))))))))))))))))))))))))))))))))) (.out (AV.bool false) [] (AV.bool true) []) (.again (Again (0) (fun (x : Sp.Sub fun (x : Nat) => x ≤ n) => mkSt [2, 3, 5] [AV.own (0 : Nat) (2 : Nat) (0 : Nat) (0 : Nat) (2 : Nat), AV.own (1 : Nat) (2 : Nat) (0 : Nat) (0 : Nat) (2 : Nat), Zi (↑(Subtype.val x) : Int)] [some { es := (2 : Nat), n := (1 : Nat), mu := true, f := Rep.lst [[Zi i, hss n f]] }, some { es := (2 : Nat), n := (1 : Nat), mu := true, f := Rep.lst [[Zi i, hss n f]] }]) (fun (x : Sp.Sub fun (x : Nat) => x ≤ n) => n - Subtype.val x) x2) ([2, 3, 5]) ([0, 1]) ([AV.own (0) (2) (0) (0) (2), AV.own (1) (2) (0) (0) (2), Zi (IntKind.wrap IntKind.i64 ((↑x2.1 : Int) + (1 : Int)))]) ([some { es := 2, n := 1, mu := true, f := Rep.lst [[Zi i, AV.isl (32) n fun (i j : Nat) => Zb (f i j)]] }, some { es := 2, n := 1, mu := true, f := Rep.lst [[Zi i, AV.isl (32) n fun (i j : Nat) => Zb (f i j)]] }]))))) (.out (AV.bool true) [] (AV.bool true) [])))))
    (by kernel_rfl) ?_
  refine k_br (fun h0 => ?_) (fun h0 => ?_)
  · have g0 := (cnd_or_t cnd_bne_t cnd_bne_t) h0
    exact k_out (Ent.of_eq (by first | rfl | simp_all))
  · have g0 := (cnd_or_f cnd_bne_f cnd_bne_f) h0
    refine k_loop (fun _ hs => hs.le (by repeat' (first | exact trivial | (first | exact Ent.refl _ | exact inc_ent (by omega) | exact Ent.nil rfl | exact Ent.of_eq (congrArg (AV.osl _ _ _) (by first | omega | (dsimp only; omega))) | exact Ent.of_eq (congrArg (AV.int _) (by first | omega | (dsimp only; omega)))) | refine And.intro ?_ ?_)) (by repeat' (first | exact trivial | (first | exact ObEnt.refl _ | exact ObEnt.junk | exact ObEnt.zero | exact ObEnt.push rfl rfl | exact ObEnt.pushRow rfl | exact ObEnt.len (by omega) | exact ObEnt.row (by repeat' (first | exact trivial | (first | exact Ent.refl _ | exact inc_ent (by omega) | exact Ent.nil rfl | exact Ent.of_eq (congrArg (AV.osl _ _ _) (by first | omega | (dsimp only; omega))) | exact Ent.of_eq (congrArg (AV.int _) (by first | omega | (dsimp only; omega)))) | refine And.intro ?_ ?_))) | refine And.intro ?_ ?_))) (fun x2 => ?_)
    try (have q2 := x2.2; dsimp only at q2)
    refine k_br (fun h3 => ?_) (fun h3 => ?_)
    · have g3 := cnd_dec_t h3
      refine k_req (by first | omega | (simp only [Int.toNat_natCast]; omega)) ?_
      refine k_req (by first | omega | (simp only [Int.toNat_natCast]; omega)) ?_
      refine k_br (fun h6 => ?_) (fun h6 => ?_)
      · have g6 := (cnd_not_t (cnd_and_f cnd_beq_f (cnd_and_f cnd_beq_f (cnd_and_f cnd_beq_f (cnd_and_f cnd_beq_f (cnd_and_f cnd_beq_f (cnd_and_f cnd_beq_f (cnd_and_f cnd_beq_f (cnd_and_f cnd_beq_f (cnd_and_f cnd_beq_f (cnd_and_f cnd_beq_f (cnd_and_f cnd_beq_f (cnd_and_f cnd_beq_f (cnd_and_f cnd_beq_f (cnd_and_f cnd_beq_f (cnd_and_f cnd_beq_f (cnd_and_f cnd_beq_f (cnd_and_f cnd_beq_f (cnd_and_f cnd_beq_f (cnd_and_f cnd_beq_f (cnd_and_f cnd_beq_f (cnd_and_f cnd_beq_f (cnd_and_f cnd_beq_f (cnd_and_f cnd_beq_f (cnd_and_f cnd_beq_f (cnd_and_f cnd_beq_f (cnd_and_f cnd_beq_f (cnd_and_f cnd_beq_f (cnd_and_f cnd_beq_f (cnd_and_f cnd_beq_f (cnd_and_f cnd_beq_f (cnd_and_f cnd_beq_f (cnd_and_f cnd_beq_f cnd_id_f))))))))))))))))))))))))))))))))) h6
        try simp only [Int.toNat_natCast] at g6
        exact k_out (Ent.of_eq (by first | rfl | simp_all))
      · have g6 := (cnd_not_f (cnd_and_t cnd_beq_t (cnd_and_t cnd_beq_t (cnd_and_t cnd_beq_t (cnd_and_t cnd_beq_t (cnd_and_t cnd_beq_t (cnd_and_t cnd_beq_t (cnd_and_t cnd_beq_t (cnd_and_t cnd_beq_t (cnd_and_t cnd_beq_t (cnd_and_t cnd_beq_t (cnd_and_t cnd_beq_t (cnd_and_t cnd_beq_t (cnd_and_t cnd_beq_t (cnd_and_t cnd_beq_t (cnd_and_t cnd_beq_t (cnd_and_t cnd_beq_t (cnd_and_t cnd_beq_t (cnd_and_t cnd_beq_t (cnd_and_t cnd_beq_t (cnd_and_t cnd_beq_t (cnd_and_t cnd_beq_t (cnd_and_t cnd_beq_t (cnd_and_t cnd_beq_t (cnd_and_t cnd_beq_t (cnd_and_t cnd_beq_t (cnd_and_t cnd_beq_t (cnd_and_t cnd_beq_t (cnd_and_t cnd_beq_t (cnd_and_t cnd_beq_t (cnd_and_t cnd_beq_t (cnd_and_t cnd_beq_t (cnd_and_t cnd_beq_t cnd_id_t))))))))))))))))))))))))))))))))) h6
        try simp only [Int.toNat_natCast] at g6
        exact k_again (⟨x2.1 + 1, by omega⟩) (fun _ hs => hs.le (by repeat' (first | exact trivial | (first | exact Ent.refl _ | exact inc_ent (by omega) | exact Ent.nil rfl | exact Ent.of_eq (congrArg (AV.osl _ _ _) (by first | omega | (dsimp only; omega))) | exact Ent.of_eq (congrArg (AV.int _) (by first | omega | (dsimp only; omega)))) | refine And.intro ?_ ?_)) (by repeat' (first | exact trivial | (first | exact ObEnt.refl _ | exact ObEnt.junk | exact ObEnt.zero | exact ObEnt.push rfl rfl | exact ObEnt.pushRow rfl | exact ObEnt.len (by omega) | exact ObEnt.row (by repeat' (first | exact trivial | (first | exact Ent.refl _ | exact inc_ent (by omega) | exact Ent.nil rfl | exact Ent.of_eq (congrArg (AV.osl _ _ _) (by first | omega | (dsimp only; omega))) | exact Ent.of_eq (congrArg (AV.int _) (by first | omega | (dsimp only; omega)))) | refine And.intro ?_ ?_))) | refine And.intro ?_ ?_))) (by first | omega | (dsimp only; omega) | (simp; omega))
    · have g3 := cnd_dec_f h3
      exact k_out (Ent.of_eq (by first | rfl | simp_all))

theorem same32_c (s : Spend) (hl : s.nl ≤ 1000) (hp : s.np ≤ 1000) : Pure Tryz.prog gl0 80 [s.av, s.av] (.bool true) := by
  refine pure_sk (own := ow0) Tryz.func80 (by kernel_rfl) mixed (by kernel_rfl)
    (.sc ((!(s.1 == s.1 && (s.2 == s.2 && (s.3 == s.3 && (s.4 == s.4 && (s.5 == s.5 && (s.6 (0) == s.6 (0) && (s.6 (1) == s.6 (1) && (s.6 (2) == s.6 (2) && (s.6 (3) == s.6 (3) && (s.6 (4) == s.6 (4) && (s.6 (5) == s.6 (5) && (s.6 (6) == s.6 (6) && (s.6 (7) == s.6 (7) && (s.6 (8) == s.6 (8) && (s.6 (9) == s.6 (9) && (s.6 (10) == s.6 (10) && (s.6 (11) == s.6 (11) && (s.6 (12) == s.6 (12) && (s.6 (13) == s.6 (13) && (s.6 (14) == s.6 (14) && (s.6 (15) == s.6 (15) && (s.6 (16) == s.6 (16) && (s.6 (17) == s.6 (17) && (s.6 (18) == s.6 (18) && (s.6 (19) == s.6 (19) && (s.6 (20) == s.6 (20) && (s.6 (21) == s.6 (21) && (s.6 (22) == s.6 (22) && (s.6 (23) == s.6 (23) && (s.6 (24) == s.6 (24) && (s.6 (25) == s.6 (25) && (s.6 (26) == s.6 (26) && (s.6 (27) == s.6 (27) && (s.6 (28) == s.6 (28) && (s.6 (29) == s.6 (29) && (s.6 (30) == s.6 (30) && (s.6 (31) == s.6 (31) && true))))))))))))))))))))))))))))))) && (s.7 == s.7 && (s.8 == s.8 && (s.9 == s.9 && (s.10 == s.10 && true))) && true))))))) || !(s.11 == s.11 && (s.12 == s.12 && true)) || !(s.13 (0) == s.13 (0) && (s.13 (1) == s.13 (1) && (s.13 (2) == s.13 (2) && (s.13 (3) == s.13 (3) && (s.13 (4) == s.13 (4) && (s.13 (5) == s.13 (5) && (s.13 (6) == s.13 (6) && (s.13 (7) == s.13 (7) && (s.13 (8) == s.13 (8) && (s.13 (9) == s.13 (9) && (s.13 (10) == s.13 (10) && (s.13 (11) == s.13 (11) && (s.13 (12) == s.13 (12) && (s.13 (13) == s.13 (13) && (s.13 (14) == s.13 (14) && (s.13 (15) == s.13 (15) && (s.13 (16) == s.13 (16) && (s.13 (17) == s.13 (17) && (s.13 (18) == s.13 (18) && (s.13 (19) == s.13 (19) && (s.13 (20) == s.13 (20) && (s.13 (21) == s.13 (21) && (s.13 (22) == s.13 (22) && (s.13 (23) == s.13 (23) && (s.13 (24) == s.13 (24) && (s.13 (25) == s.13 (25) && (s.13 (26) == s.13 (26) && (s.13 (27) == s.13 (27) && (s.13 (28) == s.13 (28) && (s.13 (29) == s.13 (29) && (s.13 (30) == s.13 (30) && (s.13 (31) == s.13 (31) && true))))))))))))))))))))))))))))))) && (s.14 == s.14 && (s.15 == s.15 && true))) || (↑s.16 : Int) != (↑s.16 : Int)) == false) 119 ([AV.agg [Zi s.18, AV.isl (32) s.19 fun (i j : Nat) => Zb (s.20 i j)], AV.agg [Zi s.18, AV.isl (32) s.19 fun (i j : Nat) => Zb (s.20 i j)]]) (AV.bool true) (.br (!(s.1 == s.1 && (s.2 == s.2 && (s.3 == s.3 && (s.4 == s.4 && (s.5 == s.5 && (s.6 (0) == s.6 (0) && (s.6 (1) == s.6 (1) && (s.6 (2) == s.6 (2) && (s.6 (3) == s.6 (3) && (s.6 (4) == s.6 (4) && (s.6 (5) == s.6 (5) && (s.6 (6) == s.6 (6) && (s.6 (7) == s.6 (7) && (s.6 (8) == s.6 (8) && (s.6 (9) == s.6 (9) && (s.6 (10) == s.6 (10) && (s.6 (11) == s.6 (11) && (s.6 (12) == s.6 (12) && (s.6 (13) == s.6 (13) && (s.6 (14) == s.6 (14) && (s.6 (15) == s.6 (15) && (s.6 (16) == s.6 (16) && (s.6 (17) == s.6 (17) && (s.6 (18) == s.6 (18) && (s.6 (19) == s.6 (19) && (s.6 (20) == s.6 (20) && (s.6 (21) == s.6 (21) && (s.6 (22) == s.6 (22) && (s.6 (23) == s.6 (23) && (s.6 (24) == s.6 (24) && (s.6 (25) == s.6 (25) && (s.6 (26) == s.6 (26) && (s.6 (27) == s.6 (27) && (s.6 (28) == s.6 (28) && (s.6 (29) == s.6 (29) && (s.6 (30) == s.6 (30) && (s.6 (31) == s.6 (31) && true))))))))))))))))))))))))))))))) && (s.7 == s.7 && (s.8 == s.8 && (s.9 == s.9 && (s.10 == s.10 && true))) && true))))))) || !(s.11 == s.11 && (s.12 == s.12 && true)) || !(s.13 (0) == s.13 (0) && (s.13 (1) == s.13 (1) && (s.13 (2) == s.13 (2) && (s.13 (3) == s.13 (3) && (s.13 (4) == s.13 (4) && (s.13 (5) == s.13 (5) && (s.13 (6) == s.13 (6) && (s.13 (7) == s.13 (7) && (s.13 (8) == s.13 (8) && (s.13 (9) == s.13 (9) && (s.13 (10) == s.13 (10) && (s.13 (11) == s.13 (11) && (s.13 (12) == s.13 (12) && (s.13 (13) == s.13 (13) && (s.13 (14) == s.13 (14) && (s.13 (15) == s.13 (15) && (s.13 (16) == s.13 (16) && (s.13 (17) == s.13 (17) && (s.13 (18) == s.13 (18) && (s.13 (19) == s.13 (19) && (s.13 (20) == s.13 (20) && (s.13 (21) == s.13 (21) && (s.13 (22) == s.13 (22) && (s.13 (23) == s.13 (23) && (s.13 (24) == s.13 (24) && (s.13 (25) == s.13 (25) && (s.13 (26) == s.13 (26) && (s.13 (27) == s.13 (27) && (s.13 (28) == s.13 (28) && (s.13 (29) == s.13 (29) && (s.13 (30) == s.13 (30) && (s.13 (31) == s.13 (31) && true))))))))))))))))))))))))))))))) && (s.14 == s.14 && (s.15 == s.15 && true))) || (↑s.16 : Int) != (↑s.16 : Int) || false) (.out (AV.bool false) [] (AV.bool true) []) (.loop (Sp.Sub fun (x : Nat) => x ≤ Spend.nl s) (fun (x : Sp.Sub fun (x : Nat) => x ≤ Spend.nl s) => mkSt [2, 3, 5] [AV.own (0 : Nat) (80 : Nat) (0 : Nat) (0 : Nat) (80 : Nat), AV.own (1 : Nat) (80 : Nat) (0 : Nat) (0 : Nat) (80 : Nat), Zi (↑(Subtype.val x) : Int)] [some { es := (80 : Nat), n := (1 : Nat), mu := true, f := Rep.lst [Spend.cells s] }, some { es := (80 : Nat), n := (1 : Nat), mu := true, f := Rep.lst [Spend.cells s] }]) (fun (x : Sp.Sub fun (x : Nat) => x ≤ Spend.nl s) => Spend.nl s - Subtype.val x) (⟨(0 : Nat), Nat.zero_le (Spend.nl s)⟩) ([2, 3, 5]) ([0, 8]) ([AV.own (0) (80) (0) (0) (80), AV.own (1) (80) (0) (0) (80), Zi 0]) ([some { es := 80, n := 1, mu := true, f := Rep.lst [Spend.cells s] }, some { es := 80, n := 1, mu := true, f := Rep.lst [Spend.cells s] }]) (fun x3 => (.br (decide ((↑x3.1 : Int) < (↑s.16 : Int))) (.req ((0 : Int) ≤ (↑x3.1 : Int) ∧ (↑x3.1 : Int) < (↑s.16 : Int)) (.req ((0 : Int) ≤ (↑x3.1 : Int) ∧ (↑x3.1 : Int) < (↑s.16 : Int)) (.br (!(s.17 (Int.toNat (↑x3.1 : Int)) (0) == s.17 (Int.toNat (↑x3.1 : Int)) (0) && (s.17 (Int.toNat (↑x3.1 : Int)) (1) == s.17 (Int.toNat (↑x3.1 : Int)) (1) && (s.17 (Int.toNat (↑x3.1 : Int)) (2) == s.17 (Int.toNat (↑x3.1 : Int)) (2) && true)))) (.out (AV.bool false) [] (AV.bool true) []) (.again (Again (0) (fun (x : Sp.Sub fun (x : Nat) => x ≤ Spend.nl s) => mkSt [2, 3, 5] [AV.own (0 : Nat) (80 : Nat) (0 : Nat) (0 : Nat) (80 : Nat), AV.own (1 : Nat) (80 : Nat) (0 : Nat) (0 : Nat) (80 : Nat), Zi (↑(Subtype.val x) : Int)] [some { es := (80 : Nat), n := (1 : Nat), mu := true, f := Rep.lst [Spend.cells s] }, some { es := (80 : Nat), n := (1 : Nat), mu := true, f := Rep.lst [Spend.cells s] }]) (fun (x : Sp.Sub fun (x : Nat) => x ≤ Spend.nl s) => Spend.nl s - Subtype.val x) x3) ([2, 3, 5]) ([0, 1]) ([AV.own (0) (80) (0) (0) (80), AV.own (1) (80) (0) (0) (80), Zi (IntKind.wrap IntKind.i64 ((↑x3.1 : Int) + (1 : Int)))]) ([some { es := 80, n := 1, mu := true, f := Rep.lst [Spend.cells s] }, some { es := 80, n := 1, mu := true, f := Rep.lst [Spend.cells s] }]))))) (.out (AV.bool true) [] (AV.bool true) []))))))
    (by kernel_rfl) ?_
  refine k_scg (fun h0 => same27_c (s.18) (s.19) (s.20) (by first | assumption | omega)) ?_
  refine k_br (fun h1 => ?_) (fun h1 => ?_)
  · have g1 := (cnd_or_t (cnd_or_t (cnd_or_t (cnd_or_t (cnd_not_t (cnd_and_f cnd_beq_f (cnd_and_f cnd_beq_f (cnd_and_f cnd_beq_f (cnd_and_f cnd_beq_f (cnd_and_f cnd_beq_f (cnd_and_f (cnd_and_f cnd_beq_f (cnd_and_f cnd_beq_f (cnd_and_f cnd_beq_f (cnd_and_f cnd_beq_f (cnd_and_f cnd_beq_f (cnd_and_f cnd_beq_f (cnd_and_f cnd_beq_f (cnd_and_f cnd_beq_f (cnd_and_f cnd_beq_f (cnd_and_f cnd_beq_f (cnd_and_f cnd_beq_f (cnd_and_f cnd_beq_f (cnd_and_f cnd_beq_f (cnd_and_f cnd_beq_f (cnd_and_f cnd_beq_f (cnd_and_f cnd_beq_f (cnd_and_f cnd_beq_f (cnd_and_f cnd_beq_f (cnd_and_f cnd_beq_f (cnd_and_f cnd_beq_f (cnd_and_f cnd_beq_f (cnd_and_f cnd_beq_f (cnd_and_f cnd_beq_f (cnd_and_f cnd_beq_f (cnd_and_f cnd_beq_f (cnd_and_f cnd_beq_f (cnd_and_f cnd_beq_f (cnd_and_f cnd_beq_f (cnd_and_f cnd_beq_f (cnd_and_f cnd_beq_f (cnd_and_f cnd_beq_f (cnd_and_f cnd_beq_f cnd_id_f)))))))))))))))))))))))))))))))) (cnd_and_f (cnd_and_f cnd_beq_f (cnd_and_f cnd_beq_f (cnd_and_f cnd_beq_f (cnd_and_f cnd_beq_f cnd_id_f)))) cnd_id_f)))))))) (cnd_not_t (cnd_and_f cnd_beq_f (cnd_and_f cnd_beq_f cnd_id_f)))) (cnd_not_t (cnd_and_f (cnd_and_f cnd_beq_f (cnd_and_f cnd_beq_f (cnd_and_f cnd_beq_f (cnd_and_f cnd_beq_f (cnd_and_f cnd_beq_f (cnd_and_f cnd_beq_f (cnd_and_f cnd_beq_f (cnd_and_f cnd_beq_f (cnd_and_f cnd_beq_f (cnd_and_f cnd_beq_f (cnd_and_f cnd_beq_f (cnd_and_f cnd_beq_f (cnd_and_f cnd_beq_f (cnd_and_f cnd_beq_f (cnd_and_f cnd_beq_f (cnd_and_f cnd_beq_f (cnd_and_f cnd_beq_f (cnd_and_f cnd_beq_f (cnd_and_f cnd_beq_f (cnd_and_f cnd_beq_f (cnd_and_f cnd_beq_f (cnd_and_f cnd_beq_f (cnd_and_f cnd_beq_f (cnd_and_f cnd_beq_f (cnd_and_f cnd_beq_f (cnd_and_f cnd_beq_f (cnd_and_f cnd_beq_f (cnd_and_f cnd_beq_f (cnd_and_f cnd_beq_f (cnd_and_f cnd_beq_f (cnd_and_f cnd_beq_f (cnd_and_f cnd_beq_f cnd_id_f)))))))))))))))))))))))))))))))) (cnd_and_f cnd_beq_f (cnd_and_f cnd_beq_f cnd_id_f))))) cnd_bne_t) cnd_id_t) h1
    exact k_out (Ent.of_eq (by first | rfl | simp_all))
  · have g1 := (cnd_or_f (cnd_or_f (cnd_or_f (cnd_or_f (cnd_not_f (cnd_and_t cnd_beq_t (cnd_and_t cnd_beq_t (cnd_and_t cnd_beq_t (cnd_and_t cnd_beq_t (cnd_and_t cnd_beq_t (cnd_and_t (cnd_and_t cnd_beq_t (cnd_and_t cnd_beq_t (cnd_and_t cnd_beq_t (cnd_and_t cnd_beq_t (cnd_and_t cnd_beq_t (cnd_and_t cnd_beq_t (cnd_and_t cnd_beq_t (cnd_and_t cnd_beq_t (cnd_and_t cnd_beq_t (cnd_and_t cnd_beq_t (cnd_and_t cnd_beq_t (cnd_and_t cnd_beq_t (cnd_and_t cnd_beq_t (cnd_and_t cnd_beq_t (cnd_and_t cnd_beq_t (cnd_and_t cnd_beq_t (cnd_and_t cnd_beq_t (cnd_and_t cnd_beq_t (cnd_and_t cnd_beq_t (cnd_and_t cnd_beq_t (cnd_and_t cnd_beq_t (cnd_and_t cnd_beq_t (cnd_and_t cnd_beq_t (cnd_and_t cnd_beq_t (cnd_and_t cnd_beq_t (cnd_and_t cnd_beq_t (cnd_and_t cnd_beq_t (cnd_and_t cnd_beq_t (cnd_and_t cnd_beq_t (cnd_and_t cnd_beq_t (cnd_and_t cnd_beq_t (cnd_and_t cnd_beq_t cnd_id_t)))))))))))))))))))))))))))))))) (cnd_and_t (cnd_and_t cnd_beq_t (cnd_and_t cnd_beq_t (cnd_and_t cnd_beq_t (cnd_and_t cnd_beq_t cnd_id_t)))) cnd_id_t)))))))) (cnd_not_f (cnd_and_t cnd_beq_t (cnd_and_t cnd_beq_t cnd_id_t)))) (cnd_not_f (cnd_and_t (cnd_and_t cnd_beq_t (cnd_and_t cnd_beq_t (cnd_and_t cnd_beq_t (cnd_and_t cnd_beq_t (cnd_and_t cnd_beq_t (cnd_and_t cnd_beq_t (cnd_and_t cnd_beq_t (cnd_and_t cnd_beq_t (cnd_and_t cnd_beq_t (cnd_and_t cnd_beq_t (cnd_and_t cnd_beq_t (cnd_and_t cnd_beq_t (cnd_and_t cnd_beq_t (cnd_and_t cnd_beq_t (cnd_and_t cnd_beq_t (cnd_and_t cnd_beq_t (cnd_and_t cnd_beq_t (cnd_and_t cnd_beq_t (cnd_and_t cnd_beq_t (cnd_and_t cnd_beq_t (cnd_and_t cnd_beq_t (cnd_and_t cnd_beq_t (cnd_and_t cnd_beq_t (cnd_and_t cnd_beq_t (cnd_and_t cnd_beq_t (cnd_and_t cnd_beq_t (cnd_and_t cnd_beq_t (cnd_and_t cnd_beq_t (cnd_and_t cnd_beq_t (cnd_and_t cnd_beq_t (cnd_and_t cnd_beq_t (cnd_and_t cnd_beq_t cnd_id_t)))))))))))))))))))))))))))))))) (cnd_and_t cnd_beq_t (cnd_and_t cnd_beq_t cnd_id_t))))) cnd_bne_f) cnd_id_f) h1
    refine k_loop (fun _ hs => hs.le (by repeat' (first | exact trivial | (first | exact Ent.refl _ | exact inc_ent (by omega) | exact Ent.nil rfl | exact Ent.of_eq (congrArg (AV.osl _ _ _) (by first | omega | (dsimp only; omega))) | exact Ent.of_eq (congrArg (AV.int _) (by first | omega | (dsimp only; omega)))) | refine And.intro ?_ ?_)) (by repeat' (first | exact trivial | (first | exact ObEnt.refl _ | exact ObEnt.junk | exact ObEnt.zero | exact ObEnt.push rfl rfl | exact ObEnt.pushRow rfl | exact ObEnt.len (by omega) | exact ObEnt.row (by repeat' (first | exact trivial | (first | exact Ent.refl _ | exact inc_ent (by omega) | exact Ent.nil rfl | exact Ent.of_eq (congrArg (AV.osl _ _ _) (by first | omega | (dsimp only; omega))) | exact Ent.of_eq (congrArg (AV.int _) (by first | omega | (dsimp only; omega)))) | refine And.intro ?_ ?_))) | refine And.intro ?_ ?_))) (fun x3 => ?_)
    try (have q3 := x3.2; dsimp only at q3)
    refine k_br (fun h4 => ?_) (fun h4 => ?_)
    · have g4 := cnd_dec_t h4
      refine k_req (by first | omega | (simp only [Int.toNat_natCast]; omega)) ?_
      refine k_req (by first | omega | (simp only [Int.toNat_natCast]; omega)) ?_
      refine k_br (fun h7 => ?_) (fun h7 => ?_)
      · have g7 := (cnd_not_t (cnd_and_f cnd_beq_f (cnd_and_f cnd_beq_f (cnd_and_f cnd_beq_f cnd_id_f)))) h7
        try simp only [Int.toNat_natCast] at g7
        exact k_out (Ent.of_eq (by first | rfl | simp_all))
      · have g7 := (cnd_not_f (cnd_and_t cnd_beq_t (cnd_and_t cnd_beq_t (cnd_and_t cnd_beq_t cnd_id_t)))) h7
        try simp only [Int.toNat_natCast] at g7
        exact k_again (⟨x3.1 + 1, by omega⟩) (fun _ hs => hs.le (by repeat' (first | exact trivial | (first | exact Ent.refl _ | exact inc_ent (by omega) | exact Ent.nil rfl | exact Ent.of_eq (congrArg (AV.osl _ _ _) (by first | omega | (dsimp only; omega))) | exact Ent.of_eq (congrArg (AV.int _) (by first | omega | (dsimp only; omega)))) | refine And.intro ?_ ?_)) (by repeat' (first | exact trivial | (first | exact ObEnt.refl _ | exact ObEnt.junk | exact ObEnt.zero | exact ObEnt.push rfl rfl | exact ObEnt.pushRow rfl | exact ObEnt.len (by omega) | exact ObEnt.row (by repeat' (first | exact trivial | (first | exact Ent.refl _ | exact inc_ent (by omega) | exact Ent.nil rfl | exact Ent.of_eq (congrArg (AV.osl _ _ _) (by first | omega | (dsimp only; omega))) | exact Ent.of_eq (congrArg (AV.int _) (by first | omega | (dsimp only; omega)))) | refine And.intro ?_ ?_))) | refine And.intro ?_ ?_))) (by first | omega | (dsimp only; omega) | (simp; omega))
    · have g4 := cnd_dec_f h4
      exact k_out (Ent.of_eq (by first | rfl | simp_all))

theorem few_c (s : Spend) : Pure Tryz.prog gl0 22 [s.av] (.bool (decide ((s.nl : Int) ≤ 40) && decide ((s.np : Int) ≤ 20))) := by
  refine pure_sk (own := ow0) Tryz.func22 (by kernel_rfl) mixed (by kernel_rfl)
    (.out (AV.bool (decide ((↑s.16 : Int) ≤ (40 : Int)) && decide ((↑s.19 : Int) ≤ (20 : Int)))) [] (AV.bool (decide ((↑(Spend.nl s) : Int) ≤ (40 : Int)) && decide ((↑(Spend.np s) : Int) ≤ (20 : Int)))) [])
    (by kernel_rfl) ?_
  exact k_out (Ent.of_eq (by first | rfl | simp_all))

theorem kinds_c : Pure Tryz.prog gl0 70 [] (.int .i64 12) := by
  refine pure_sk (own := ow0) Tryz.func70 (by kernel_rfl) mixed (by kernel_rfl)
    (.out (Zi 12) [] (Zi 12) [])
    (by kernel_rfl) ?_
  exact k_out (Ent.of_eq (by first | rfl | simp_all))

theorem r53scalar_c (b : Bas) (x : Int) : Pure Tryz.prog gl0 77 [b.gr.av, .int .i64 x] (.bool (scB b x)) := by
  refine pure_sk (own := ow0) Tryz.func77 (by kernel_rfl) mixed (by kernel_rfl)
    (.out (AV.bool (decide (x ≥ (0 : Int)) && decide (x < (Bas.gr b).2))) [] (AV.bool (scB b x)) [])
    (by kernel_rfl) ?_
  exact k_out (Ent.refl _)

theorem rgscalar_c (b : Bas) (x : Int) : Pure Tryz.prog gl0 74 [b.av, .int .i64 x] (.bool (scB b x)) := by
  refine pure_sk (own := ow0) Tryz.func74 (by kernel_rfl) mixed (by kernel_rfl)
    (.out (AV.bool (decide (x ≥ (0 : Int)) && decide (x < (Bas.gr b).2))) [] (AV.bool (scB b x)) [])
    (by kernel_rfl) ?_
  exact k_out (Ent.refl _)

end Go.Proofs.YtmhipmiacghgeaaGreatDoor

namespace Go.Proofs.YtmhipmiacghgeaaGreatDoor
open Go Go.Am Go.Sp
set_option maxRecDepth 100000

theorem alter_4 (s : Spend) (hl : s.nl ≤ 1000) (hp : s.np ≤ 1000) (ok : okS s = true) : Pure Tryz.prog gl0 69 [s.av, .int .i64 4, .int .i64 1] (.tup [({ s with index := IntKind.wrap .i64 (BitVec.toNat (BitVec.ofInt 64 s.index ^^^ BitVec.ofInt 64 1)) } : Spend).av, .int .i64 0]) := by
  have c1 := rogueformed_c s hl
  have c2 := copied_c s hl hp
  rw [ok] at c1
  refine pure_sk (own := owR) Tryz.func69 (by kernel_rfl) mixed (by kernel_rfl)
    (.sc (true) 71 ([AV.agg (Spend.cells s)]) (AV.bool true) (.ff (.ff (.ff (.gc 76 ([]) ([AV.agg (Spend.cells s)]) (AV.agg (Spend.cw s (AV.osl (0 : Nat) (3 : Nat) (0 : Nat) (Spend.nl s)) (AV.osl (1 : Nat) (32 : Nat) (0 : Nat) (Spend.np s)))) ([some { es := (3 : Nat), n := Spend.nl s, mu := true, f := Rep.fn fun (i j : Nat) => Zi (Spend.lf s i j) }, some { es := (32 : Nat), n := Spend.np s, mu := true, f := Rep.fn fun (i j : Nat) => Zb (Spend.pf s i j) }]) (.ff (.ff (.ff (.ff (.tt (.out (AV.tup [AV.agg (Zi s.1 :: Zi s.2 :: Zi s.3 :: Zi s.4 :: Zi s.5 :: (u8c s.6 ++ Zi s.7 :: Zi s.8 :: Zi s.9 :: Zi s.10 :: Zi s.11 :: Zi (IntKind.wrap IntKind.i64 (↑(BitVec.toNat (BitVec.ofInt (64) s.12 ^^^ BitVec.ofInt (64) (1 : Int))) : Int)) :: (u8c s.13 ++ [Zi s.14, Zi s.15, AV.isl (3) s.16 fun (r k : Nat) => Zi (s.17 (r + 0) k), Zi s.18, AV.isl (32) s.19 fun (r k : Nat) => Zb (s.20 (r + 0) k)]))), Zi 0]) [] (AV.tup [Spend.av { bank := Spend.bank s, epoch := Spend.epoch s, denom := Spend.denom s, depth := Spend.depth s, a := Spend.a s, root := Spend.root s, z := Spend.z s, sa := Spend.sa s, sb := Spend.sb s, r := Spend.r s, level := Spend.level s, index := IntKind.wrap IntKind.i64 (↑(BitVec.toNat (BitVec.ofInt (64 : Nat) (Spend.index s) ^^^ BitVec.ofInt (64 : Nat) (1 : Int))) : Int), payee := Spend.payee s, time := Spend.time s, number := Spend.number s, nl := Spend.nl s, lf := Spend.lf s, pidx := Spend.pidx s, np := Spend.np s, pf := Spend.pf s }, Zi 0]) [])))))))))))
    (by kernel_rfl) ?_
  refine k_sc (c1) ?_
  refine k_ff ?_
  refine k_ff ?_
  refine k_ff ?_
  refine k_gc (c2) ?_
  refine k_ff ?_
  refine k_ff ?_
  refine k_ff ?_
  refine k_ff ?_
  refine k_tt ?_
  exact k_out (Ent.of_eq (by first | rfl | simp_all))

theorem alter_10 (s : Spend) (hl : s.nl ≤ 1000) (hp : s.np ≤ 1000) (h1 : s.nl = 1) (ok : okS s = true) : Pure Tryz.prog gl0 69 [s.av, .int .i64 10, .int .i64 1] (.tup [Spend.zero.av, .int .i64 7]) := by
  have c1 := rogueformed_c s hl
  have c2 := copied_c s hl hp
  rw [ok] at c1
  refine pure_sk (own := owR) Tryz.func69 (by kernel_rfl) mixed (by kernel_rfl)
    (.sc (true) 71 ([AV.agg (Spend.cells s)]) (AV.bool true) (.ff (.ff (.br ((↑s.16 : Int) == (1 : Int) || false) (.out (AV.tup [AV.agg [Zi 0, Zi 0, Zi 0, Zi 0, Zi 0, Zb 0, Zb 0, Zb 0, Zb 0, Zb 0, Zb 0, Zb 0, Zb 0, Zb 0, Zb 0, Zb 0, Zb 0, Zb 0, Zb 0, Zb 0, Zb 0, Zb 0, Zb 0, Zb 0, Zb 0, Zb 0, Zb 0, Zb 0, Zb 0, Zb 0, Zb 0, Zb 0, Zb 0, Zb 0, Zb 0, Zb 0, Zb 0, Zi 0, Zi 0, Zi 0, Zi 0, Zi 0, Zi 0, Zb 0, Zb 0, Zb 0, Zb 0, Zb 0, Zb 0, Zb 0, Zb 0, Zb 0, Zb 0, Zb 0, Zb 0, Zb 0, Zb 0, Zb 0, Zb 0, Zb 0, Zb 0, Zb 0, Zb 0, Zb 0, Zb 0, Zb 0, Zb 0, Zb 0, Zb 0, Zb 0, Zb 0, Zb 0, Zb 0, Zb 0, Zb 0, Zi 0, Zi 0, AV.nsl, Zi 0, AV.nsl], Zi 7]) [] (AV.tup [Spend.av Spend.zero, Zi 7]) []) (.gc 76 ([]) ([AV.agg (Spend.cells s)]) (AV.agg (Spend.cw s (AV.osl (0 : Nat) (3 : Nat) (0 : Nat) (Spend.nl s)) (AV.osl (1 : Nat) (32 : Nat) (0 : Nat) (Spend.np s)))) ([some { es := (3 : Nat), n := Spend.nl s, mu := true, f := Rep.fn fun (i j : Nat) => Zi (Spend.lf s i j) }, some { es := (32 : Nat), n := Spend.np s, mu := true, f := Rep.fn fun (i j : Nat) => Zb (Spend.pf s i j) }]) (.ff (.ff (.ff (.ff (.ff (.ff (.ff (.ff (.ff (.ff (.tt (.req ((0 : Int) ≤ IntKind.wrap IntKind.i64 ((↑s.16 : Int) - (1 : Int)) ∧ IntKind.wrap IntKind.i64 ((↑s.16 : Int) - (1 : Int)) < (↑s.16 : Int)) (.req ((0 : Int) ≤ (0 : Int) ∧ (0 : Int) < (↑s.16 : Int)) (.req ((0 : Int) ≤ (0 : Int) ∧ (0 : Int) < (↑s.16 : Int)) (.req ((0 : Int) ≤ IntKind.wrap IntKind.i64 ((↑s.16 : Int) - (1 : Int)) ∧ IntKind.wrap IntKind.i64 ((↑s.16 : Int) - (1 : Int)) < (↑s.16 : Int)) (.out (AV.tup [AV.agg (Zi s.1 :: Zi s.2 :: Zi s.3 :: Zi s.4 :: Zi s.5 :: (u8c s.6 ++ Zi s.7 :: Zi s.8 :: Zi s.9 :: Zi s.10 :: Zi s.11 :: Zi s.12 :: (u8c s.13 ++ [Zi s.14, Zi s.15, AV.isl (3) s.16 fun (r k : Nat) => Zi (bif Nat.beq (r + 0) (Int.toNat (IntKind.wrap IntKind.i64 ((↑s.16 : Int) - (1 : Int))) + 0) && (Nat.ble (0) k && Nat.blt k (3)) then intOfAV (atL [Zi (s.17 (0) (0)), Zi (s.17 (0) (1)), Zi (s.17 (0) (2))] (k - 0)) else bif Nat.beq (r + 0) (0) && (Nat.ble (0) k && Nat.blt k (3)) then intOfAV (atL [Zi (s.17 (Int.toNat (IntKind.wrap IntKind.i64 ((↑s.16 : Int) - (1 : Int))) + 0) (0)), Zi (s.17 (Int.toNat (IntKind.wrap IntKind.i64 ((↑s.16 : Int) - (1 : Int))) + 0) (1)), Zi (s.17 (Int.toNat (IntKind.wrap IntKind.i64 ((↑s.16 : Int) - (1 : Int))) + 0) (2))] (k - 0)) else s.17 (r + 0) k), Zi s.18, AV.isl (32) s.19 fun (r k : Nat) => Zb (s.20 (r + 0) k)]))), Zi 0]) [] (AV.tup [Spend.av Spend.zero, Zi 7]) [])))))))))))))))))))))
    (by kernel_rfl) ?_
  refine k_sc (c1) ?_
  refine k_ff ?_
  refine k_ff ?_
  refine k_br (fun h3 => ?_) (fun h3 => ?_)
  · have g3 := (cnd_or_t cnd_beq_t cnd_id_t) h3
    exact k_out (Ent.tup ⟨Ent.agg zero_ent, Ent.refl _, trivial⟩)
  · have g3 := (cnd_or_f cnd_beq_f cnd_id_f) h3
    refine k_gc (c2) ?_
    refine k_ff ?_
    refine k_ff ?_
    refine k_ff ?_
    refine k_ff ?_
    refine k_ff ?_
    refine k_ff ?_
    refine k_ff ?_
    refine k_ff ?_
    refine k_ff ?_
    refine k_ff ?_
    refine k_tt ?_
    refine k_req (by first | omega | (simp only [Int.toNat_natCast]; omega)) ?_
    refine k_req (by first | omega | (simp only [Int.toNat_natCast]; omega)) ?_
    refine k_req (by first | omega | (simp only [Int.toNat_natCast]; omega)) ?_
    refine k_req (by first | omega | (simp only [Int.toNat_natCast]; omega)) ?_
    exact k_out ((by exfalso; omega))

theorem leaf4_ok : okS .leaf4 = true := by decide +kernel

theorem alter4_c : Pure Tryz.prog gl0 69 [.agg (Spend.zero.cw (.isl 3 1 fun r k => atL (List.getD [[.int .i64 4, .int .i64 0, .int .i64 0]] r []) k) .nsl), .int .i64 4, .int .i64 1] (.tup [({ Spend.leaf4 with index := 1 } : Spend).av, .int .i64 0]) :=
  Pure.via (alter_4 .leaf4 (by decide) (by decide) leaf4_ok) ⟨Ent.agg leaf4_ent, Ent.refl _, Ent.refl _, trivial⟩

theorem alter10_c : Pure Tryz.prog gl0 69 [.agg (Spend.zero.cw (.isl 3 1 fun r k => atL (List.getD [[.int .i64 4, .int .i64 0, .int .i64 0]] r []) k) .nsl), .int .i64 10, .int .i64 1] (.tup [Spend.zero.av, .int .i64 7]) :=
  Pure.via (alter_10 .leaf4 (by decide) (by decide) rfl leaf4_ok) ⟨Ent.agg leaf4_ent, Ent.refl _, Ent.refl _, trivial⟩

theorem awake53_c : Pure Tryz.prog gl0 21 [] (.bool true) := by
  refine pure_sk (own := ow0) Tryz.func21 (by kernel_rfl) mixed (by kernel_rfl)
    (.dc (true) 69 ([AV.agg [Zi 0, Zi 0, Zi 0, Zi 0, Zi 0, Zb 0, Zb 0, Zb 0, Zb 0, Zb 0, Zb 0, Zb 0, Zb 0, Zb 0, Zb 0, Zb 0, Zb 0, Zb 0, Zb 0, Zb 0, Zb 0, Zb 0, Zb 0, Zb 0, Zb 0, Zb 0, Zb 0, Zb 0, Zb 0, Zb 0, Zb 0, Zb 0, Zb 0, Zb 0, Zb 0, Zb 0, Zb 0, Zi 0, Zi 0, Zi 0, Zi 0, Zi 0, Zi 0, Zb 0, Zb 0, Zb 0, Zb 0, Zb 0, Zb 0, Zb 0, Zb 0, Zb 0, Zb 0, Zb 0, Zb 0, Zb 0, Zb 0, Zb 0, Zb 0, Zb 0, Zb 0, Zb 0, Zb 0, Zb 0, Zb 0, Zb 0, Zb 0, Zb 0, Zb 0, Zb 0, Zb 0, Zb 0, Zb 0, Zb 0, Zb 0, Zi 0, Zi 0, AV.isl (3) (1) fun (r k : Nat) => atL (List.getD [[Zi 4, Zi 0, Zi 0]] (r + 0) []) k, Zi 0, AV.nsl], Zi 4, Zi 1]) (AV.tup   [Spend.av       (have __src := Spend.leaf4;       { bank := Spend.bank __src, epoch := Spend.epoch __src, denom := Spend.denom __src, depth := Spend.depth __src, a := Spend.a __src, root := Spend.root __src, z := Spend.z __src, sa := Spend.sa __src, sb := Spend.sb __src, r := Spend.r __src, level := Spend.level __src, index := (1 : Int), payee := Spend.payee __src, time := Spend.time __src, number := Spend.number __src, nl := Spend.nl __src, lf := Spend.lf __src, pidx := Spend.pidx __src, np := Spend.np __src, pf := Spend.pf __src }),     Zi 0]) (.dc (true) 69 ([AV.agg [Zi 0, Zi 0, Zi 0, Zi 0, Zi 0, Zb 0, Zb 0, Zb 0, Zb 0, Zb 0, Zb 0, Zb 0, Zb 0, Zb 0, Zb 0, Zb 0, Zb 0, Zb 0, Zb 0, Zb 0, Zb 0, Zb 0, Zb 0, Zb 0, Zb 0, Zb 0, Zb 0, Zb 0, Zb 0, Zb 0, Zb 0, Zb 0, Zb 0, Zb 0, Zb 0, Zb 0, Zb 0, Zi 0, Zi 0, Zi 0, Zi 0, Zi 0, Zi 0, Zb 0, Zb 0, Zb 0, Zb 0, Zb 0, Zb 0, Zb 0, Zb 0, Zb 0, Zb 0, Zb 0, Zb 0, Zb 0, Zb 0, Zb 0, Zb 0, Zb 0, Zb 0, Zb 0, Zb 0, Zb 0, Zb 0, Zb 0, Zb 0, Zb 0, Zb 0, Zb 0, Zb 0, Zb 0, Zb 0, Zb 0, Zb 0, Zi 0, Zi 0, AV.isl (3) (1) fun (r k : Nat) => atL (List.getD [[Zi 4, Zi 0, Zi 0]] (r + 0) []) k, Zi 0, AV.nsl], Zi 10, Zi 1]) (AV.tup [Spend.av Spend.zero, Zi 7]) (.sc (true) 70 ([]) (Zi 12) (.out (AV.bool true) [] (AV.bool true) []))))
    (by kernel_rfl) ?_
  refine k_dc (alter4_c) ?_
  refine k_dc (alter10_c) ?_
  refine k_sc (kinds_c) ?_
  exact k_out (Ent.of_eq (by first | rfl | simp_all))

theorem odd_c (b : Bas) (l0 l1 l2 : Int) : Pure Tryz.prog gl0 73 [.agg [.int .i64 l0, .int .i64 l1, .int .i64 l2], .ipt 6 (atL b.cells)] (.bool (!(scB b l1 && scB b l2))) := by
  have c1 := rgscalar_c b
  refine pure_sk (own := ow0) Tryz.func73 (by kernel_rfl) mixed (by kernel_rfl)
    (.sc (true) 74 ([AV.agg (Bas.cells b), Zi l1]) (AV.bool (scB b l1)) (.sc ((!scB b l1) == false) 74 ([AV.agg (Bas.cells b), Zi l2]) (AV.bool (scB b l2)) (.out (AV.bool (!scB b l1 || !scB b l2)) [] (AV.bool !(scB b l1 && scB b l2)) [])))
    (by kernel_rfl) ?_
  refine k_sc (c1 (l1)) ?_
  refine k_scg (fun h1 => c1 (l2)) ?_
  exact k_out (Ent.of_eq (by first | rfl | simp_all))

theorem indexO_c (b : Bas) (f : Nat → Nat → Int) (n : Nat) (hn : n < 9223372036854775808) : Pure Tryz.prog gl0 105 [lvs n f, .fn (.func 73) [] [.ipt 6 (atL b.cells)]] (.int .i64 (firstI (fun i => !(scB b (f i 1) && scB b (f i 2))) n 0)) := by
  have c1 := odd_c b
  refine pure_sk (own := ow0) Tryz.func105 (by kernel_rfl) mixed (by kernel_rfl)
    (.loop ({ x : Nat // x ≤ n ∧ (fun (i : Nat) => firstI (fun (i : Nat) => !(scB b (f i (1 : Nat)) && scB b (f i (2 : Nat)))) n (0 : Nat) = firstI (fun (i : Nat) => !(scB b (f i (1 : Nat)) && scB b (f i (2 : Nat)))) (n - i) i) x }) (fun (x : { x : Nat // x ≤ n ∧ (fun (i : Nat) => firstI (fun (i : Nat) => !(scB b (f i (1 : Nat)) && scB b (f i (2 : Nat)))) n (0 : Nat) = firstI (fun (i : Nat) => !(scB b (f i (1 : Nat)) && scB b (f i (2 : Nat)))) (n - i) i) x }) => mkSt [0, 1, 7, 8] [AV.isl (3) n fun (i j : Nat) => Zi (f i j), AV.fn (Fn.func (73 : FuncId)) [] [AV.ipt (6) (atL (Bas.cells b))], Zi (↑n : Int), Zi (↑(Subtype.val x) : Int)] []) (fun (x : { x : Nat // x ≤ n ∧ (fun (i : Nat) => firstI (fun (i : Nat) => !(scB b (f i (1 : Nat)) && scB b (f i (2 : Nat)))) n (0 : Nat) = firstI (fun (i : Nat) => !(scB b (f i (1 : Nat)) && scB b (f i (2 : Nat)))) (n - i) i) x }) => n - Subtype.val x) (⟨(0 : Nat), ⟨Nat.zero_le n, rfl⟩⟩) ([0, 1, 7, 8]) ([]) ([AV.isl (3) n fun (i j : Nat) => Zi (f i j), AV.fn (Fn.func (73 : FuncId)) [] [AV.ipt (6) (atL (Bas.cells b))], Zi (↑n : Int), Zi 0]) ([]) (fun x0 => (.br (decide ((↑x0.1 : Int) < (↑n : Int))) (.req ((0 : Int) ≤ (↑x0.1 : Int) ∧ (↑x0.1 : Int) < (↑n : Int)) (.sc (true) 73 ([AV.agg [Zi (f (Int.toNat (↑x0.1 : Int)) (0)), Zi (f (Int.toNat (↑x0.1 : Int)) (1)), Zi (f (Int.toNat (↑x0.1 : Int)) (2))], AV.ipt (6) (atL (Bas.cells b))]) (AV.bool !(scB b (f (Int.toNat (↑x0.1 : Int)) (1)) && scB b (f (Int.toNat (↑x0.1 : Int)) (2)))) (.br (!(scB b (f (Int.toNat (↑x0.1 : Int)) (1)) && scB b (f (Int.toNat (↑x0.1 : Int)) (2)))) (.out (Zi (↑x0.1 : Int)) [] (Zi (firstI (fun (i : Nat) => !(scB b (f i (1 : Nat)) && scB b (f i (2 : Nat)))) n (0 : Nat))) []) (.again (Again (0) (fun (x : { x : Nat // x ≤ n ∧ (fun (i : Nat) => firstI (fun (i : Nat) => !(scB b (f i (1 : Nat)) && scB b (f i (2 : Nat)))) n (0 : Nat) = firstI (fun (i : Nat) => !(scB b (f i (1 : Nat)) && scB b (f i (2 : Nat)))) (n - i) i) x }) => mkSt [0, 1, 7, 8] [AV.isl (3) n fun (i j : Nat) => Zi (f i j), AV.fn (Fn.func (73 : FuncId)) [] [AV.ipt (6) (atL (Bas.cells b))], Zi (↑n : Int), Zi (↑(Subtype.val x) : Int)] []) (fun (x : { x : Nat // x ≤ n ∧ (fun (i : Nat) => firstI (fun (i : Nat) => !(scB b (f i (1 : Nat)) && scB b (f i (2 : Nat)))) n (0 : Nat) = firstI (fun (i : Nat) => !(scB b (f i (1 : Nat)) && scB b (f i (2 : Nat)))) (n - i) i) x }) => n - Subtype.val x) x0) ([0, 1, 7, 8]) ([]) ([AV.isl (3) n fun (i j : Nat) => Zi (f i j), AV.fn (Fn.func (73 : FuncId)) [] [AV.ipt (6) (atL (Bas.cells b))], Zi (↑n : Int), Zi (IntKind.wrap IntKind.i64 ((↑x0.1 : Int) + (1 : Int)))]) ([]))))) (.out (Zi (-1)) [] (Zi (firstI (fun (i : Nat) => !(scB b (f i (1 : Nat)) && scB b (f i (2 : Nat)))) n (0 : Nat))) []))))
    (by kernel_rfl) ?_
  --LOOPINFO kept [0, 1, 7] changed [8] objects []
  refine k_loop (fun _ hs => hs.le (by repeat' (first | exact trivial | (first | exact Ent.refl _ | exact inc_ent (by omega) | exact Ent.nil rfl | exact Ent.of_eq (congrArg (AV.osl _ _ _) (by first | omega | (dsimp only; omega))) | exact Ent.of_eq (congrArg (AV.int _) (by first | omega | (dsimp only; omega)))) | refine And.intro ?_ ?_)) (trivial)) (fun x0 => ?_)
  try (have q0 := x0.2; dsimp only at q0)
  refine k_br (fun h1 => ?_) (fun h1 => ?_)
  · have g1 := cnd_dec_t h1
    refine k_req (by first | omega | (simp only [Int.toNat_natCast]; omega)) ?_
    refine k_sc (c1 (f (Int.toNat (↑x0.1 : Int)) (0)) (f (Int.toNat (↑x0.1 : Int)) (1)) (f (Int.toNat (↑x0.1 : Int)) (2))) ?_
    refine k_br (fun h4 => ?_) (fun h4 => ?_)
    · have g4 := (cnd_not_t (cnd_and_f cnd_id_f cnd_id_f)) h4
      try simp only [Int.toNat_natCast] at g4
      exact k_out (Ent.of_eq (congrArg _ (first_hit x0.2.2 (by omega) h4)))
    · have g4 := (cnd_not_f (cnd_and_t cnd_id_t cnd_id_t)) h4
      try simp only [Int.toNat_natCast] at g4
      exact k_again (⟨x0.1 + 1, by omega, first_next x0.2.2 (by omega) h4⟩) (fun _ hs => hs.le (by repeat' (first | exact trivial | (first | exact Ent.refl _ | exact inc_ent (by omega) | exact Ent.nil rfl | exact Ent.of_eq (congrArg (AV.osl _ _ _) (by first | omega | (dsimp only; omega))) | exact Ent.of_eq (congrArg (AV.int _) (by first | omega | (dsimp only; omega)))) | refine And.intro ?_ ?_)) (trivial)) (by first | omega | (dsimp only; omega) | (simp; omega))
  · have g1 := cnd_dec_f h1
    exact k_out (Ent.of_eq (congrArg _ (first_miss x0.2.2 (by omega))))

theorem containsO_c (b : Bas) (f : Nat → Nat → Int) (n : Nat) (hn : n < 9223372036854775808) : Pure Tryz.prog gl0 72 [lvs n f, .fn (.func 73) [] [.ipt 6 (atL b.cells)]] (.bool (decide (firstI (fun i => !(scB b (f i 1) && scB b (f i 2))) n 0 ≥ 0))) := by
  have c1 := indexO_c b f n hn
  refine pure_sk (own := ow0) Tryz.func72 (by kernel_rfl) mixed (by kernel_rfl)
    (.sc (true) 105 ([AV.isl (3) n fun (i j : Nat) => Zi (f i j), AV.fn (Fn.func (73 : FuncId)) [] [AV.ipt (6) (atL (Bas.cells b))]]) (Zi (firstI (fun (i : Nat) => !(scB b (f i (1 : Nat)) && scB b (f i (2 : Nat)))) n (0 : Nat))) (.out (AV.bool (decide (firstI (fun (i : Nat) => !(scB b (f i (1)) && scB b (f i (2)))) n (0) ≥ (0 : Int)))) [] (AV.bool (decide (firstI (fun (i : Nat) => !(scB b (f i (1 : Nat)) && scB b (f i (2 : Nat)))) n (0 : Nat) ≥ (0 : Int)))) []))
    (by kernel_rfl) ?_
  refine k_sc (c1) ?_
  exact k_out (Ent.refl _)

end Go.Proofs.YtmhipmiacghgeaaGreatDoor

namespace Go.Sp
open Go Go.Am
theorem elem_iff {G : Grp} (h : G.Ok) {x : Int} : elemB G x = true ↔ 1 ≤ x ∧ x < G.p ∧ x ^ G.q.toNat % G.p = 1 := by
  rw [← mem_eq h]
  simp [and_assoc]
theorem pow_ne {a p : Int} {q : Nat} (hq : 0 < q) (h : a ^ q % p = 1) : a % p ≠ 0 := fun e => by
  have h2 : (a % p) ^ q % p = 1 := by rw [pow_mod]; exact h
  rw [e, Int.zero_pow (by omega)] at h2
  simp at h2
theorem elem_of {G : Grp} (h : G.Ok) {x : Int} (hx : x ^ G.q.toNat % G.p = 1) : elemB G (x % G.p) = true := by
  have h3 := h.p3; have h4 := h.q3
  have h1 := Int.emod_nonneg x (show G.p ≠ 0 by omega)
  have h2 := Int.emod_lt_of_pos x (show 0 < G.p by omega)
  have h5 := pow_ne (by omega) hx
  refine (elem_iff h).2 ⟨by omega, h2, ?_⟩
  rw [pow_mod]
  exact hx
theorem elem_pow {G : Grp} (h : G.Ok) {a : Int} (ha : elemB G a = true) (k : Nat) : elemB G (a ^ k % G.p) = true := by
  refine elem_of h ?_
  have h3 := h.p3
  rw [← Int.pow_mul, Nat.mul_comm, Int.pow_mul, ← pow_mod, ((elem_iff h).1 ha).2.2, Int.one_pow, Int.emod_eq_of_lt (by decide) (by omega)]
theorem elem_mul {G : Grp} (h : G.Ok) {a b : Int} (ha : elemB G a = true) (hb : elemB G b = true) : elemB G (a * b % G.p) = true := by
  refine elem_of h ?_
  have h3 := h.p3
  rw [Int.mul_pow, Int.mul_emod, ((elem_iff h).1 ha).2.2, ((elem_iff h).1 hb).2.2]
  exact Int.emod_eq_of_lt (by decide) (by omega)
theorem elem_bnd {G : Grp} (h : G.Ok) {a : Int} (ha : elemB G a = true) : 1 ≤ a ∧ a < G.p := ⟨((elem_iff h).1 ha).1, ((elem_iff h).1 ha).2.1⟩
/-- The message of a number. -/
def msgI (b : Bas) (u : Int) : Int := b.g1 ^ u.toNat % b.gr.p * b.g2 % b.gr.p
/-- Is a leaf right? -/
def rightB (b : Bas) (s : Spend) (i : Nat) : Bool :=
  decide (s.a ≠ 1) && elemB b.gr s.a && elemB b.gr (s.lf i 0) && scB b (s.lf i 1) && scB b (s.lf i 2) &&
    decide (b.g1 ^ (s.lf i 1).toNat % b.gr.p * (b.g2 ^ (s.lf i 2).toNat % b.gr.p) % b.gr.p = s.a ^ (chS b s).toNat % b.gr.p * s.lf i 0 % b.gr.p)
def openE (b : Bas) (s : Spend) (leaf : Int) : Int :=
  if validB b = false ∨ okS s = false then 1 else if leaf < fromS s ∨ toS s ≤ leaf then 2 else if rightB b s (leafN s leaf) = true then 0 else 11
def fitB (b : Bas) (s : Spend) (leaf u : Int) : Bool := openE b s leaf == 0 && scB b u && msgI b u != 1
theorem red_q {q x : Int} (h : 0 ≤ x ∧ x < q) : x % q = x := Int.emod_eq_of_lt h.1 h.2
theorem chS_q {b : Bas} {s : Spend} (h : 0 < b.gr.q) : 0 ≤ chS b s ∧ chS b s < b.gr.q := num_by h 16
theorem open_1 {b : Bas} {s : Spend} {leaf : Int} (h : validB b = false ∨ okS s = false) : openE b s leaf = 1 := if_pos h
theorem open_2 {b : Bas} {s : Spend} {leaf : Int} (h : validB b = true) (h' : okS s = true) (h1 : leaf < fromS s ∨ toS s ≤ leaf) : openE b s leaf = 2 := by
  unfold openE; rw [if_neg (by simp [h, h']), if_pos h1]
theorem open_3 {b : Bas} {s : Spend} {leaf : Int} (h : validB b = true) (h' : okS s = true) (h1 : ¬ (leaf < fromS s ∨ toS s ≤ leaf)) : openE b s leaf = if rightB b s (leafN s leaf) = true then 0 else 11 := by
  unfold openE; rw [if_neg (by simp [h, h']), if_neg h1]
theorem open_no {b : Bas} {s : Spend} {leaf : Int} (h : validB b = true) (h' : okS s = true) (h1 : ¬ (leaf < fromS s ∨ toS s ≤ leaf)) (h2 : rightB b s (leafN s leaf) = false) : openE b s leaf = 11 := by
  rw [open_3 h h' h1, h2]; rfl
theorem open_yes {b : Bas} {s : Spend} {leaf : Int} (h : validB b = true) (h' : okS s = true) (h1 : ¬ (leaf < fromS s ∨ toS s ≤ leaf)) (h2 : rightB b s (leafN s leaf) = true) : openE b s leaf = 0 := by
  rw [open_3 h h' h1, h2]; rfl
theorem right_no {b : Bas} {s : Spend} {i : Nat} (h : s.a = 1 ∨ elemB b.gr s.a = false ∨ elemB b.gr (s.lf i 0) = false ∨ scB b (s.lf i 1) = false ∨ scB b (s.lf i 2) = false) : rightB b s i = false := by
  unfold rightB
  rcases h with h | h | h | h | h <;> simp [h]
theorem right_eq {b : Bas} {s : Spend} {i : Nat} (h : ¬ s.a = 1 ∧ elemB b.gr s.a = true ∧ elemB b.gr (s.lf i 0) = true ∧ scB b (s.lf i 1) = true ∧ scB b (s.lf i 2) = true) :
    rightB b s i = decide (b.g1 ^ (s.lf i 1).toNat % b.gr.p * (b.g2 ^ (s.lf i 2).toNat % b.gr.p) % b.gr.p = s.a ^ (chS b s).toNat % b.gr.p * s.lf i 0 % b.gr.p) := by
  unfold rightB
  obtain ⟨h1, h2, h3, h4, h5⟩ := h
  simp [h1, h2, h3, h4, h5]
theorem fit_no {A D E : Prop} {V B C : Bool} (hv : V = true) (h : ((((A ∨ (V = false ∨ B = false)) ∨ (V = false ∨ C = false)) ∨ D) ∨ E)) : A ∨ B = false ∨ C = false ∨ D ∨ E := by
  subst hv
  rcases h with (((h | h | h) | h | h) | h) | h <;> simp_all
theorem fit_yes {A D E : Prop} {V B C : Bool} (h : (((A ∧ (V = true ∧ B = true)) ∧ (V = true ∧ C = true)) ∧ D) ∧ E) : A ∧ B = true ∧ C = true ∧ D ∧ E :=
  ⟨h.1.1.1.1, h.1.1.1.2.2, h.1.1.2.2, h.1.2, h.2⟩
theorem fit_no2 {A B C D E : Prop} (h : (((A ∨ B) ∨ C) ∨ D) ∨ E) : A ∨ B ∨ C ∨ D ∨ E := by
  rcases h with (((h | h) | h) | h) | h <;> simp_all
theorem fit_yes2 {A B C D E : Prop} (h : (((A ∧ B) ∧ C) ∧ D) ∧ E) : A ∧ B ∧ C ∧ D ∧ E := ⟨h.1.1.1.1, h.1.1.1.2, h.1.1.2, h.1.2, h.2⟩
theorem one_q {G : Grp} (h : G.Ok) {x : Int} (hx : elemB G x = true) : x ^ 1 % G.p = x := by
  have := elem_bnd h hx
  rw [Int.pow_succ, Int.pow_zero, Int.one_mul, Int.emod_eq_of_lt (by omega) (by omega)]
theorem open_0 {b : Bas} {s : Spend} {leaf : Int} (h : openE b s leaf = 0) : validB b = true ∧ okS s = true ∧ ¬ (leaf < fromS s ∨ toS s ≤ leaf) ∧ rightB b s (leafN s leaf) = true := by
  unfold openE at h
  split at h
  · cases h
  · rename_i h1
    split at h
    · cases h
    · rename_i h2
      split at h
      · rename_i h3
        refine ⟨?_, ?_, h2, h3⟩
        · cases hb : validB b with
          | true => rfl
          | false => exact absurd (Or.inl hb) h1
        · cases hb : okS s with
          | true => rfl
          | false => exact absurd (Or.inr hb) h1
      · cases h
theorem bas_g {b : Bas} (h : b.Ok) : (1 ≤ b.g1 ∧ b.g1 < b.gr.p) ∧ (1 ≤ b.g2 ∧ b.g2 < b.gr.p) := ⟨elem_bnd h.G h.e1, elem_bnd h.G h.e2⟩
theorem leaf_t {s : Spend} {leaf : Int} (h : okS s = true) : IntKind.wrap .i64 (fromS s + s.nl) = toS s ∧ 0 ≤ fromS s ∧ (¬ (leaf < fromS s ∨ toS s ≤ leaf) → IntKind.wrap .i64 (leaf - fromS s) = leaf - fromS s ∧ 0 ≤ leaf - fromS s ∧ leaf - fromS s < s.nl) := by
  obtain ⟨_, _, _, _, hn⟩ := okS_all h
  have hb := fromS_bnd s
  have hz := okS_nl h
  refine ⟨by rw [wI (by omega) (by omega)]; omega, hb.1, fun h1 => ⟨wI (by omega) (by omega), by omega, by omega⟩⟩
theorem fit_f {b : Bas} {s : Spend} {leaf u : Int} (h : openE b s leaf ≠ 0) : fitB b s leaf u = false := by
  unfold fitB
  rw [show (openE b s leaf == 0) = false by simpa using h]
  rfl
theorem fit_eq {b : Bas} {s : Spend} {leaf u : Int} (h : validB b = true) (h' : okS s = true) (h1 : ¬ (leaf < fromS s ∨ toS s ≤ leaf)) : fitB b s leaf u = (rightB b s (leafN s leaf) && scB b u && msgI b u != 1) := by
  unfold fitB
  rw [open_3 h h' h1]
  cases rightB b s (leafN s leaf) <;> rfl
end Go.Sp

namespace Go.Sp
open Go Go.Am
def claimL (s : Spend) (u q : Int) (i j : Nat) : Int := bif Nat.beq j 1 then (s.lf i 1 + u) % q else bif Nat.beq j 2 then (s.lf i 2 + 1) % q else s.lf i j
def claimT (s : Spend) (u q : Int) : Spend := { s with number := s.number + 1, lf := claimL s u q }
def clF (s : Spend) (u q : Int) (k i j : Nat) : Int := bif Nat.blt i k then claimL s u q i j else s.lf i j
def oddB (b : Bas) (s : Spend) (i : Nat) : Bool := !(scB b (s.lf i 1) && scB b (s.lf i 2))
def claimE (b : Bas) (s : Spend) (u : Int) : Int :=
  if validB b = false ∨ okS s = false then 1 else if decide (firstI (oddB b s) s.nl 0 ≥ 0) = true ∨ scB b u = false ∨ s.number ≥ 1073741824 then 2 else 0
def gul (s t : Spend) (leaf : Int) : AV := .agg (s.cells ++ (t.cells ++ [.int .i64 leaf]))
def claimG (b : Bas) (s : Spend) (u : Int) : AV := if claimE b s u = 0 then gul s (claimT s u b.gr.q) (fromS s) else gul .zero .zero 0
theorem entL_app {os : List (Option Ob)} : ∀ {a a' b b' : List AV}, EntL os a a' → EntL os b b' → EntL os (a ++ b) (a' ++ b')
  | [], [], _, _, _, h => h
  | _ :: _, _ :: _, _, _, h, h' => ⟨h.1, entL_app h.2 h'⟩
theorem claimE_1 {b : Bas} {s : Spend} {u : Int} (h : validB b = false ∨ okS s = false) : claimE b s u = 1 := if_pos h
theorem claimE_2 {b : Bas} {s : Spend} {u : Int} (h : validB b = true ∧ okS s = true) (h1 : (firstI (oddB b s) s.nl 0 ≥ 0 ∨ scB b u = false) ∨ s.number ≥ 1073741824) : claimE b s u = 2 := by
  unfold claimE
  rw [if_neg (by simp [h]), if_pos (by
    rcases h1 with (h1 | h1) | h1
    · exact Or.inl (decide_eq_true h1)
    · exact Or.inr (Or.inl h1)
    · exact Or.inr (Or.inr h1))]
theorem claimE_0 {b : Bas} {s : Spend} {u : Int} (h : validB b = true ∧ okS s = true) (h1 : (¬ firstI (oddB b s) s.nl 0 ≥ 0 ∧ scB b u = true) ∧ ¬ s.number ≥ 1073741824) : claimE b s u = 0 := by
  unfold claimE
  rw [if_neg (by simp [h]), if_neg (by simp only [decide_eq_true_eq]; simp [h1])]
theorem claim_err {os : List (Option Ob)} {b : Bas} {s : Spend} {u e : Int} (h : claimE b s u = e) (h0 : e ≠ 0) :
    Ent os (.tup [.agg (Spend.zero.cw .nsl .nsl ++ (Spend.zero.cw .nsl .nsl ++ [.int .i64 0])), .int .i64 e]) (.tup [claimG b s u, .int .i64 (claimE b s u)]) := by
  have e2 : claimG b s u = gul .zero .zero 0 := by unfold claimG; rw [if_neg (by rw [h]; exact h0)]
  rw [e2, h]
  exact Ent.tup ⟨Ent.agg (entL_app zero_ent (entL_app zero_ent (EntL.refl _))), Ent.refl _, trivial⟩
theorem okS_num {s : Spend} (h : okS s = true) : 0 ≤ s.time ∧ s.time ≤ 1099511627776 ∧ 0 ≤ s.number ∧ s.number ≤ 1073741824 := by
  have := (okS_all h).2.1
  unfold ctxB at this
  simp at this
  omega
theorem claim_out {os : List (Option Ob)} {b : Bas} {s : Spend} {u : Int} {x : Nat} (h : claimE b s u = 0) (ok : okS s = true) (hn : ¬ s.number ≥ 1073741824) (hx : x = s.nl) :
    Ent os (.tup [.agg (s.cells ++ (Spend.cw { s with number := IntKind.wrap .i64 (s.number + 1) } (.isl 3 s.nl fun r k => .int .i64 (clF s u b.gr.q x (r + 0) k)) (.isl 32 s.np fun r k => .int .u8 (s.pf (r + 0) k)) ++ [.int .i64 (spanA s.depth s.level s.index)])), .int .i64 0])
      (.tup [claimG b s u, .int .i64 (claimE b s u)]) := by
  subst hx
  have k := okS_num ok
  have e2 : claimG b s u = gul s (claimT s u b.gr.q) (fromS s) := by unfold claimG; rw [if_pos h]
  rw [e2, h, wI (by omega) (by omega), ← (okS_all ok).2.2.1]
  refine Ent.tup ⟨Ent.agg (entL_app (EntL.refl _) (entL_app (cw_ent (claimT s u b.gr.q) ?_ (Ent.refl _)) (EntL.refl _))), Ent.refl _, trivial⟩
  refine Ent.isl fun i j hi hj => congrArg (AV.int .i64) ?_
  unfold clF
  rw [Nat.add_zero, blt_t hi]
  rfl
theorem cl_step {b : Bas} {s : Spend} {u : Int} {x i j y : Nat} (hy : y = x) (hj : j < 3) (hu : 0 ≤ u ∧ u < b.gr.q) (h1 : 0 ≤ s.lf x 1 ∧ s.lf x 1 < b.gr.q) (h2 : 0 ≤ s.lf x 2 ∧ s.lf x 2 < b.gr.q) (hq : b.gr.q < 2305843009213693952) :
    (bif Nat.beq i (y + 0) && (Nat.ble 2 j && Nat.blt j 3) then Int.tmod (IntKind.wrap .i64 (clF s u b.gr.q x (y + 0) 2 + 1)) b.gr.q else bif Nat.beq i (y + 0) && (Nat.ble 1 j && Nat.blt j 2) then Int.tmod (IntKind.wrap .i64 (clF s u b.gr.q x (y + 0) 1 + u)) b.gr.q else clF s u b.gr.q x i j) = clF s u b.gr.q (x + 1) i j := by
  subst hy
  have c : ∀ k, clF s u b.gr.q y (y + 0) k = s.lf y k := fun k => by
    unfold clF
    rw [blt_f (Nat.le_of_eq (Nat.add_zero y).symm)]
    rfl
  rw [c, c, wI (by omega) (by omega), wI (by omega) (by omega), tmod_nn (by omega), tmod_nn (by omega)]
  by_cases e : i = y
  · subst e
    have c2 : clF s u b.gr.q (i + 1) i j = claimL s u b.gr.q i j := by
      unfold clF
      rw [blt_t (Nat.lt_succ_self i)]
      rfl
    have c3 : clF s u b.gr.q i i j = s.lf i j := c j
    rw [c2, c3, Nat.add_zero, Nat.beq_refl]
    match j, hj with
    | 0, _ => rfl
    | 1, _ => rfl
    | 2, _ => rfl
  · have hb : Nat.beq i (y + 0) = false := by
      cases hb : Nat.beq i (y + 0) with
      | false => rfl
      | true => exact absurd (Nat.eq_of_beq_eq_true hb) e
    rw [hb]
    show clF s u b.gr.q y i j = clF s u b.gr.q (y + 1) i j
    unfold clF
    by_cases l : i < y
    · rw [blt_t l, blt_t (by omega)]
    · rw [blt_f (by omega), blt_f (by omega)]
theorem odd_no {b : Bas} {s : Spend} (h : ¬ firstI (oddB b s) s.nl 0 ≥ 0) {i : Nat} (hi : i < s.nl) : (0 ≤ s.lf i 1 ∧ s.lf i 1 < b.gr.q) ∧ (0 ≤ s.lf i 2 ∧ s.lf i 2 < b.gr.q) := by
  have o := firstI_m (p := oddB b s) s.nl 0 (by omega) i hi
  unfold oddB at o
  rw [Nat.zero_add] at o
  simp at o
  exact ⟨scB_t o.1, scB_t o.2⟩
def badN (b : Bas) (s : Spend) (u : Int) (k : Nat) : Bool := (!scB b u || decide (s.number ≥ 1073741824)) || (List.range k).any (oddB b s)
theorem badN_z {b : Bas} {s : Spend} {u : Int} : badN b s u 0 = (!scB b u || decide (s.number ≥ 1073741824)) := by simp [badN]
theorem badN_t {b : Bas} {s : Spend} {u : Int} {k : Nat} (h : oddB b s k = true) : badN b s u (k + 1) = true := by simp [badN, List.range_succ, h]
theorem badN_f {b : Bas} {s : Spend} {u : Int} {k : Nat} (h : oddB b s k = false) : badN b s u (k + 1) = badN b s u k := by simp [badN, List.range_succ, h]
theorem odd_t {b : Bas} {s : Spend} {k : Nat} (h : scB b (s.lf k 1) = false ∨ scB b (s.lf k 2) = false) : oddB b s k = true := by
  unfold oddB; rcases h with h | h <;> simp [h]
theorem odd_f {b : Bas} {s : Spend} {k : Nat} (h : scB b (s.lf k 1) = true ∧ scB b (s.lf k 2) = true) : oddB b s k = false := by
  unfold oddB; simp [h]
theorem bad_t {b : Bas} {s : Spend} {u : Int} {k : Nat} (hk : k = s.nl) (h : badN b s u k = true) : (firstI (oddB b s) s.nl 0 ≥ 0 ∨ scB b u = false) ∨ s.number ≥ 1073741824 := by
  subst hk
  have e := firstI_neg (p := oddB b s) s.nl 0
  simp only [Nat.zero_add] at e
  unfold badN at h
  rw [← e] at h
  simp at h
  rcases h with (h | h) | h
  · exact Or.inl (Or.inr h)
  · exact Or.inr h
  · exact Or.inl (Or.inl h)
theorem bad_f {b : Bas} {s : Spend} {u : Int} {k : Nat} (hk : k = s.nl) (h : badN b s u k = false) : (¬ firstI (oddB b s) s.nl 0 ≥ 0 ∧ scB b u = true) ∧ ¬ s.number ≥ 1073741824 := by
  subst hk
  have e := firstI_neg (p := oddB b s) s.nl 0
  simp only [Nat.zero_add] at e
  unfold badN at h
  rw [← e] at h
  simp at h
  exact ⟨⟨by omega, h.1.1⟩, by omega⟩
theorem cl_step2 {b : Bas} {s : Spend} {u : Int} {x i j y : Nat} (hy : y = x) (hj : j < 3) (hu : 0 ≤ u ∧ u < b.gr.q) (h1 : 0 ≤ s.lf x 1 ∧ s.lf x 1 < b.gr.q) (h2 : 0 ≤ s.lf x 2 ∧ s.lf x 2 < b.gr.q) (hq : b.gr.q < 2305843009213693952) {c : Bool} {A : Int} :
    (bif Nat.beq i (y + 0) && (Nat.ble 2 j && Nat.blt j 3) then Int.tmod (IntKind.wrap .i64 ((bif c && false then A else clF s u b.gr.q x (y + 0) 2) + 1)) b.gr.q else bif Nat.beq i (y + 0) && (Nat.ble 1 j && Nat.blt j 2) then Int.tmod (IntKind.wrap .i64 (clF s u b.gr.q x (y + 0) 1 + u)) b.gr.q else clF s u b.gr.q x i j) = clF s u b.gr.q (x + 1) i j := by
  rw [Bool.and_false]
  exact cl_step hy hj hu h1 h2 hq
theorem claim_ok {s : Spend} {u q : Int} (h : okS s = true) (hn : ¬ s.number ≥ 1073741824) : okS (claimT s u q) = true := by
  have k := okS_num h
  unfold okS at h ⊢
  simp only [claimT]
  simp only [Bool.not_eq_true', Bool.or_eq_false_iff] at h ⊢
  exact ⟨⟨h.1.1, decide_eq_false (by omega)⟩, decide_eq_false (by omega)⟩
theorem claim_by {s : Spend} {u q : Int} (h : s.By) : (claimT s u q).By := ⟨h.root, h.payee⟩
theorem inv_minus {q : Int} (hq : 3 ≤ q) : invF (q - 1) q = q - 1 := invF_eq (by omega) ⟨q - 2, by grind⟩
theorem back_q {x u q : Int} (hu : 0 ≤ u ∧ u < q) : (x - (x + u) % q) % q * (q - 1) % q = u := by
  have e1 : (x - (x + u) % q) % q = (-u) % q := by
    rw [Int.sub_emod, Int.emod_emod_of_dvd _ (Int.dvd_refl q), ← Int.sub_emod]
    congr 1
    omega
  have e2 := Int.mul_ediv_add_emod (-u) q
  rw [e1]
  generalize (-u) / q = k at e2
  generalize (-u) % q = r at e2
  have e3 : r * (q - 1) = u + q * (r + k) := by
    have : r = -u - q * k := by omega
    subst this
    grind
  rw [e3, Int.add_mul_emod_self_left, Int.emod_eq_of_lt hu.1 hu.2]
theorem less_q {x q : Int} (hq : 3 ≤ q) (hx : 0 ≤ x ∧ x < q) : (x - (x + 1) % q) % q = q - 1 ∧ ¬ x = (x + 1) % q := by
  by_cases h : x + 1 = q
  · have e : (x + 1) % q = 0 := by rw [h, Int.emod_self]
    rw [e]
    exact ⟨by rw [Int.sub_zero, Int.emod_eq_of_lt hx.1 hx.2]; omega, by omega⟩
  · have e : (x + 1) % q = x + 1 := Int.emod_eq_of_lt (by omega) (by omega)
    rw [e]
    refine ⟨?_, by omega⟩
    rw [show x - (x + 1) = (q - 1) - q by omega, Int.sub_emod_right]
    exact Int.emod_eq_of_lt (by omega) (by omega)
theorem claim_sec {b : Bas} {s : Spend} {u : Int} (h : claimE b s u = 0) : (secR b s (claimT s u b.gr.q) (fromS s)).2 = 20 ∨ secR b s (claimT s u b.gr.q) (fromS s) = (u, 0) := by
  unfold claimE at h
  split at h
  · cases h
  rename_i h1
  split at h
  · cases h
  rename_i h2
  have hv : validB b = true := by
    cases hb : validB b with
    | true => rfl
    | false => exact absurd (Or.inl hb) h1
  have ok : okS s = true := by
    cases hb : okS s with
    | true => rfl
    | false => exact absurd (Or.inr hb) h1
  have hf : ¬ firstI (oddB b s) s.nl 0 ≥ 0 := fun hh => h2 (Or.inl (decide_eq_true hh))
  have hu : scB b u = true := by
    cases hb : scB b u with
    | true => rfl
    | false => exact absurd (Or.inr (Or.inl hb)) h2
  have hn : ¬ s.number ≥ 1073741824 := fun hh => h2 (Or.inr (Or.inr hh))
  have hp := okS_pos ok
  have hq3 := (validB_ok hv).q3
  obtain ⟨_, _, _, _, hd⟩ := okS_all ok
  have nl : ¬ (fromS s < fromS s ∨ toS s ≤ fromS s) := by omega
  have hl : leafN s (fromS s) = 0 := by unfold leafN; rw [Int.sub_self]; rfl
  have f0 : firstI (fun k => (claimT s u b.gr.q).lf k 0 == s.lf 0 0) (claimT s u b.gr.q).nl 0 = 0 := by
    obtain ⟨n, hn2⟩ : ∃ n, s.nl = n + 1 := ⟨s.nl - 1, by omega⟩
    show firstI (fun k => claimL s u b.gr.q k 0 == s.lf 0 0) s.nl 0 = 0
    rw [hn2]
    unfold firstI
    rw [if_pos (show (claimL s u b.gr.q 0 0 == s.lf 0 0) = true from beq_self_eq_true (s.lf 0 0))]
    rfl
  have hm : mateS s (claimT s u b.gr.q) 0 = 0 := by unfold mateS; rw [f0]; rfl
  have hmem : fromS s ∈ sharedL s (claimT s u b.gr.q) := by
    rw [shared_has ok nl, hl]
    refine ⟨rfl, ?_⟩
    unfold found
    rw [f0]
    decide
  have o := odd_no hf hp
  have hu' := scB_t hu
  have sc : ∀ z, 0 ≤ z ∧ z < b.gr.q → scB b z = true := fun z hz => by unfold scB; simp [hz]
  have g3 := And.intro hv (And.intro ok (claim_ok (u := u) (q := b.gr.q) ok hn))
  have em : ∀ z : Int, 0 ≤ z % b.gr.q ∧ z % b.gr.q < b.gr.q := fun z => ⟨Int.emod_nonneg _ (by omega), Int.emod_lt_of_pos _ (by omega)⟩
  have k1 : (claimT s u b.gr.q).lf 0 1 = (s.lf 0 1 + u) % b.gr.q := rfl
  have k2 : (claimT s u b.gr.q).lf 0 2 = (s.lf 0 2 + 1) % b.gr.q := rfl
  have hs : scB b (s.lf (leafN s (fromS s)) 1) = true ∧ scB b (s.lf (leafN s (fromS s)) 2) = true ∧ scB b ((claimT s u b.gr.q).lf (mateS s (claimT s u b.gr.q) (leafN s (fromS s))) 1) = true ∧ scB b ((claimT s u b.gr.q).lf (mateS s (claimT s u b.gr.q) (leafN s (fromS s))) 2) = true := by
    rw [hl, hm, k1, k2]
    exact ⟨sc _ o.1, sc _ o.2, sc _ (em _), sc _ (em _)⟩
  by_cases hc : chS b s = chS b (claimT s u b.gr.q)
  · left
    rw [sec_5 g3 nl hmem hs hc]
  · right
    have l := less_q hq3 o.2
    rw [sec_7 g3 nl hmem hs hc (by rw [hl, hm, k2]; exact l.2), hl, hm, k1, k2, l.1, inv_minus hq3, back_q hu']
theorem claim_gul {b : Bas} {s : Spend} {u : Int} (h : claimE b s u = 0) : claimG b s u = gul s (claimT s u b.gr.q) (fromS s) := by unfold claimG; rw [if_pos h]
theorem claim_zero {b : Bas} {s : Spend} {u : Int} (h : ¬ claimE b s u = 0) : claimG b s u = gul .zero .zero 0 := by unfold claimG; rw [if_neg h]
theorem few_np {s : Spend} (h : fewB s = true) : s.nl ≤ 1000 ∧ s.np ≤ 1000 := by
  simp [fewB] at h
  omega
theorem claim_cases (b : Bas) (s : Spend) (u : Int) : claimE b s u = 0 ∨ claimE b s u = 1 ∨ claimE b s u = 2 := by
  unfold claimE
  split
  · exact Or.inr (Or.inl rfl)
  · split
    · exact Or.inr (Or.inr rfl)
    · exact Or.inl rfl
end Go.Sp
