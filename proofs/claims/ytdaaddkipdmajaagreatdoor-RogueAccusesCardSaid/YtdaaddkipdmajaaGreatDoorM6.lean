/- Part of the proof: FE2, Nod, Exp, FE3, FE4, FE5, FQ1, FQ2, Exp2, Clm, FQ3, Tre, FV1, EnRound, Itr, FV2. -/
import Derived.Test.YtdaaddkipdmajaaGreatDoorM5
import Derived.Test.YtdaaddkipdmajaaGreatDoorM3
import Derived.Test.YtdaaddkipdmajaaGreatDoorProg
import Derived.Test.YtdaaddkipdmajaaGreatDoorM4
import Derived.OrdersIn
namespace Go.Proofs.YtdaaddkipdmajaaGreatDoor
open Go Go.Am Go.Sp
set_option maxRecDepth 100000

theorem xspan_c (s : Spend) : Pure Tryz.prog gl0 109 [s.av] (.tup [.int .i64 (bif okS s then spanA s.depth s.level s.index else 0), .int .i64 (bif okS s then spanZ s.depth s.level s.index else 0), .bool (okS s)]) := by
  refine pure_sk (own := ow0) Tryz.func109 (by kernel_rfl) mixed (by kernel_rfl)
    (let y0 : AV := (AV.tup [Zi (bif okS s then spanA (Spend.depth s) (Spend.level s) (Spend.index s) else (0 : Int)), Zi (bif okS s then spanZ (Spend.depth s) (Spend.level s) (Spend.index s) else (0 : Int)), AV.bool (okS s)]); (.sc (true) 25 ([Zi s.4, AV.agg [Zi s.11, Zi s.12]]) (AV.tup [Zi (spanA s.4 s.11 s.12), Zi (spanZ s.4 s.11 s.12), Zi (spanE s.4 s.11 s.12)]) (.br (spanE s.4 s.11 s.12 != 0 || (↑s.16 : Int) != IntKind.wrap IntKind.i64 (spanZ s.4 s.11 s.12 - spanA s.4 s.11 s.12) || decide (s.14 < 0) || decide (s.14 > 1099511627776) || decide (s.15 < 0) || decide (s.15 > 1073741824)) (.out (AV.tup [Zi 0, Zi 0, AV.bool false]) [] y0 []) (.out (AV.tup [Zi (spanA s.4 s.11 s.12), Zi (spanZ s.4 s.11 s.12), AV.bool true]) [] y0 []))))
    (by kernel_rfl) ?_
  refine k_sc (span_c (s.4) (s.11) (s.12)) ?_
  refine k_br (fun h1 => ?_) (fun h1 => ?_)
  · have g1 := (cnd_or_t (cnd_or_t (cnd_or_t (cnd_or_t (cnd_or_t cnd_bne_t cnd_bne_t) cnd_dec_t) cnd_dec_t) cnd_dec_t) cnd_dec_t) h1
    exact k_out (Ent.of_eq (by have e : okS s = false := congrArg not h1; rw [e]; rfl))
  · have g1 := (cnd_or_f (cnd_or_f (cnd_or_f (cnd_or_f (cnd_or_f cnd_bne_f cnd_bne_f) cnd_dec_f) cnd_dec_f) cnd_dec_f) cnd_dec_f) h1
    exact k_out (Ent.of_eq (by have e : okS s = true := congrArg not h1; rw [e]; rfl))

theorem formed1_c (s : Spend) : Pure Tryz.prog gl0 175 [s.av] (.bool (!okS s)) := by
  refine pure_sk (own := ow0) Tryz.func175 (by kernel_rfl) mixed (by kernel_rfl)
    (.sc (true) 109 ([AV.agg (Spend.cells s)]) (AV.tup [Zi (bif okS s then spanA (Spend.depth s) (Spend.level s) (Spend.index s) else (0 : Int)), Zi (bif okS s then spanZ (Spend.depth s) (Spend.level s) (Spend.index s) else (0 : Int)), AV.bool (okS s)]) (.out (AV.bool !okS s) [] (AV.bool !okS s) []))
    (by kernel_rfl) ?_
  refine k_sc ((xspan_c s)) ?_
  exact k_out (Ent.refl _)

theorem indexS_c (S : Nat → Spend) (n : Nat) (hn : n < 9223372036854775808) : Pure Tryz.prog gl0 174 [.isl 80 n (fun i j => atL (S i).cells j), .fn (.func 175) [] []] (.int .i64 (firstI (fun i => !okS (S i)) n 0)) := by
  refine pure_sk (own := ow0) Tryz.func174 (by kernel_rfl) mixed (by kernel_rfl)
    (let y0 : AV := (Zi (firstI (fun (i : Nat) => !okS (S i)) n 0)); (.loop (Sp.Sub fun (i : Nat) => firstI (fun (i : Nat) => !okS (S i)) n 0 = firstI (fun (i : Nat) => !okS (S i)) (n - i) i) (fun (x : Sp.Sub fun (i : Nat) => firstI (fun (i : Nat) => !okS (S i)) n 0 = firstI (fun (i : Nat) => !okS (S i)) (n - i) i) => mkSt [0, 1, 6, 7, 8] [AV.isl 80 n fun (i j : Nat) => atL (Spend.cells (S i)) j, AV.fn (Fn.func (175 : FuncId)) [] [], AV.isl 80 n fun (i j : Nat) => atL (Spend.cells (S i)) j, Zi (↑n : Int), Zi (↑(x.1) : Int)] []) (fun (i : Sp.Sub fun (i : Nat) => firstI (fun (i : Nat) => !okS (S i)) n 0 = firstI (fun (i : Nat) => !okS (S i)) (n - i) i) => n - i.1) (⟨0, rfl⟩) ([0, 1, 6, 7, 8]) ([]) ([AV.isl 80 n fun (i j : Nat) => atL (Spend.cells (S i)) j, AV.fn (Fn.func (175 : FuncId)) [] [], AV.isl 80 n fun (i j : Nat) => atL (Spend.cells (S i)) j, Zi (↑n : Int), Zi 0]) ([]) (fun x0 => (.br (decide ((↑x0.1 : Int) < (↑n : Int))) (.req ((0 : Int) ≤ (↑x0.1 : Int) ∧ (↑x0.1 : Int) < (↑n : Int)) (.sc (true) 175 ([AV.agg (Spend.cells (S (Int.toNat (↑(x0.1) : Int))))]) (AV.bool !okS (S (Int.toNat (↑(x0.1) : Int)))) (.br (!okS (S (Int.toNat (↑x0.1 : Int)))) (.out (Zi (↑x0.1 : Int)) [] y0 []) (.again (Again 0 (fun (x : Sp.Sub fun (i : Nat) => firstI (fun (i : Nat) => !okS (S i)) n 0 = firstI (fun (i : Nat) => !okS (S i)) (n - i) i) => mkSt [0, 1, 6, 7, 8] [AV.isl 80 n fun (i j : Nat) => atL (Spend.cells (S i)) j, AV.fn (Fn.func (175 : FuncId)) [] [], AV.isl 80 n fun (i j : Nat) => atL (Spend.cells (S i)) j, Zi (↑n : Int), Zi (↑(x.1) : Int)] []) (fun (i : Sp.Sub fun (i : Nat) => firstI (fun (i : Nat) => !okS (S i)) n 0 = firstI (fun (i : Nat) => !okS (S i)) (n - i) i) => n - i.1) x0) ([0, 1, 6, 7, 8]) ([]) ([AV.isl 80 n fun (i j : Nat) => atL (Spend.cells (S i)) j, AV.fn (Fn.func (175 : FuncId)) [] [], AV.isl 80 n fun (i j : Nat) => atL (Spend.cells (S i)) j, Zi (↑n : Int), Zi (IntKind.wrap IntKind.i64 ((↑x0.1 : Int) + 1))]) ([]))))) (.out (Zi (-1)) [] y0 [])))))
    (by kernel_rfl) ?_
  refine k_loop (fun _ hs => hs.le (by repeat' (first | exact trivial | (first | exact Ent.refl _ | exact inc_ent (by omega) | exact Ent.nil rfl | exact Ent.of_eq (congrArg (AV.osl _ _ _) (by first | omega | (dsimp only; omega))) | exact Ent.of_eq (congrArg (AV.int _) (by first | omega | (dsimp only; omega)))) | refine And.intro ?_ ?_)) (trivial)) (fun x0 => ?_)
  try (have q0 := x0.2; dsimp only at q0)
  refine k_br (fun h1 => ?_) (fun h1 => ?_)
  · have g1 := cnd_dec_t h1
    refine k_req (by have := of_decide_eq_true h1; omega) ?_
    refine k_sc ((formed1_c (S (Int.toNat (↑(x0.1) : Int))))) ?_
    refine k_br (fun h4 => ?_) (fun h4 => ?_)
    · have g4 := (cnd_not_t cnd_id_f) h4
      try simp only [Int.toNat_natCast] at g4
      exact k_out (Ent.of_eq (congrArg _ (first_hit x0.2 (show x0.1 < n by have := of_decide_eq_true h1; omega) (by simpa using h4))))
    · have g4 := (cnd_not_f cnd_id_t) h4
      try simp only [Int.toNat_natCast] at g4
      exact k_again (⟨x0.1 + 1, first_next x0.2 (show x0.1 < n by have := of_decide_eq_true h1; omega) (by simpa using h4)⟩) (fun _ hs => hs.le (⟨Ent.refl _, Ent.refl _, Ent.refl _, Ent.refl _, inc_ent (by have := of_decide_eq_true h1; omega), trivial⟩) (trivial)) (by have := of_decide_eq_true h1; show n - (x0.1 + 1) < n - x0.1; omega)
  · have g1 := cnd_dec_f h1
    exact k_out (Ent.of_eq (congrArg _ (first_miss x0.2 (by have := of_decide_eq_false h1; omega))))

theorem find1_c (l0 l1 l2 b : Int) : Pure Tryz.prog gl0 184 [.agg [.int .i64 l0, .int .i64 l1, .int .i64 l2], .ipt 1 (atL [.int .i64 b])] (.bool (l0 == b)) := by
  refine pure_sk (own := ow0) Tryz.func184 (by kernel_rfl) mixed (by kernel_rfl)
    (.out (AV.bool (l0 == b)) [] (AV.bool (l0 == b)) [])
    (by kernel_rfl) ?_
  exact k_out (Ent.refl _)

theorem indexL_c (f : Nat → Nat → Int) (n : Nat) (b : Int) (hn : n < 9223372036854775808) : Pure Tryz.prog gl0 183 [lvs n f, .fn (.func 184) [] [.ipt 1 (atL [.int .i64 b])]] (.int .i64 (firstI (fun i => f i 0 == b) n 0)) := by
  refine pure_sk (own := ow0) Tryz.func183 (by kernel_rfl) mixed (by kernel_rfl)
    (let y0 : List AV := [AV.ipt 1 (atL [Zi b])]; let y1 : AV := (Zi (firstI (fun (i : Nat) => f i 0 == b) n 0)); (.loop (Sp.Sub fun (i : Nat) => firstI (fun (i : Nat) => f i 0 == b) n 0 = firstI (fun (i : Nat) => f i 0 == b) (n - i) i) (fun (x : Sp.Sub fun (i : Nat) => firstI (fun (i : Nat) => f i 0 == b) n 0 = firstI (fun (i : Nat) => f i 0 == b) (n - i) i) => mkSt [0, 1, 6, 7, 8] [lvs n f, AV.fn (Fn.func (184 : FuncId)) [] y0, lvs n f, Zi (↑n : Int), Zi (↑(x.1) : Int)] []) (fun (i : Sp.Sub fun (i : Nat) => firstI (fun (i : Nat) => f i 0 == b) n 0 = firstI (fun (i : Nat) => f i 0 == b) (n - i) i) => n - i.1) (⟨0, rfl⟩) ([0, 1, 6, 7, 8]) ([]) ([AV.isl 3 n fun (i j : Nat) => Zi (f i j), AV.fn (Fn.func (184 : FuncId)) [] y0, AV.isl 3 n fun (i j : Nat) => Zi (f i j), Zi (↑n : Int), Zi 0]) ([]) (fun x0 => (.br (decide ((↑x0.1 : Int) < (↑n : Int))) (.req ((0 : Int) ≤ (↑x0.1 : Int) ∧ (↑x0.1 : Int) < (↑n : Int)) (.sc (true) 184 ([AV.agg [Zi (f (Int.toNat (↑x0.1 : Int)) 0), Zi (f (Int.toNat (↑x0.1 : Int)) 1), Zi (f (Int.toNat (↑x0.1 : Int)) 2)], AV.ipt 1 (atL [Zi b])]) (AV.bool (f (Int.toNat (↑x0.1 : Int)) 0 == b)) (.br (f (Int.toNat (↑x0.1 : Int)) 0 == b) (.out (Zi (↑x0.1 : Int)) [] y1 []) (.again (Again 0 (fun (x : Sp.Sub fun (i : Nat) => firstI (fun (i : Nat) => f i 0 == b) n 0 = firstI (fun (i : Nat) => f i 0 == b) (n - i) i) => mkSt [0, 1, 6, 7, 8] [lvs n f, AV.fn (Fn.func (184 : FuncId)) [] y0, lvs n f, Zi (↑n : Int), Zi (↑(x.1) : Int)] []) (fun (i : Sp.Sub fun (i : Nat) => firstI (fun (i : Nat) => f i 0 == b) n 0 = firstI (fun (i : Nat) => f i 0 == b) (n - i) i) => n - i.1) x0) ([0, 1, 6, 7, 8]) ([]) ([AV.isl 3 n fun (i j : Nat) => Zi (f i j), AV.fn (Fn.func (184 : FuncId)) [] y0, AV.isl 3 n fun (i j : Nat) => Zi (f i j), Zi (↑n : Int), Zi (IntKind.wrap IntKind.i64 ((↑x0.1 : Int) + 1))]) ([]))))) (.out (Zi (-1)) [] y1 [])))))
    (by kernel_rfl) ?_
  refine k_loop (fun _ hs => hs.le (by repeat' (first | exact trivial | (first | exact Ent.refl _ | exact inc_ent (by omega) | exact Ent.nil rfl | exact Ent.of_eq (congrArg (AV.osl _ _ _) (by first | omega | (dsimp only; omega))) | exact Ent.of_eq (congrArg (AV.int _) (by first | omega | (dsimp only; omega)))) | refine And.intro ?_ ?_)) (trivial)) (fun x0 => ?_)
  try (have q0 := x0.2; dsimp only at q0)
  refine k_br (fun h1 => ?_) (fun h1 => ?_)
  · have g1 := cnd_dec_t h1
    refine k_req (by have := of_decide_eq_true h1; omega) ?_
    refine k_sc (find1_c (f (Int.toNat (↑x0.1 : Int)) (0)) (f (Int.toNat (↑x0.1 : Int)) (1)) (f (Int.toNat (↑x0.1 : Int)) (2)) (b)) ?_
    refine k_br (fun h4 => ?_) (fun h4 => ?_)
    · have g4 := cnd_beq_t h4
      try simp only [Int.toNat_natCast] at g4
      exact k_out (Ent.of_eq (congrArg _ (first_hit x0.2 (show x0.1 < n by have := of_decide_eq_true h1; omega) (by simpa using h4))))
    · have g4 := cnd_beq_f h4
      try simp only [Int.toNat_natCast] at g4
      exact k_again (⟨x0.1 + 1, first_next x0.2 (show x0.1 < n by have := of_decide_eq_true h1; omega) (by simpa using h4)⟩) (fun _ hs => hs.le (⟨Ent.refl _, Ent.refl _, Ent.refl _, Ent.refl _, inc_ent (by have := of_decide_eq_true h1; omega), trivial⟩) (trivial)) (by have := of_decide_eq_true h1; show n - (x0.1 + 1) < n - x0.1; omega)
  · have g1 := cnd_dec_f h1
    exact k_out (Ent.of_eq (congrArg _ (first_miss x0.2 (by have := of_decide_eq_false h1; omega))))

theorem find_c (s : Spend) (b : Int) (hn : s.nl < 9223372036854775808) : Pure Tryz.prog gl0 110 [s.av, .int .i64 b] (.int .i64 (firstI (fun i => s.lf i 0 == b) s.nl 0)) := by
  refine pure_sk (own := ow0) Tryz.func110 (by kernel_rfl) mixed (by kernel_rfl)
    (let y0 : AV := (Zi (firstI (fun (i : Nat) => s.17 i 0 == b) s.16 0)); (.sc (true) 183 ([AV.isl 3 s.16 fun (i j : Nat) => Zi (s.17 i j), AV.fn (Fn.func 184) [] [AV.ipt 1 fun (k : Nat) => atL [Zi b] k]]) y0 (.out y0 [] (Zi (firstI (fun (i : Nat) => Spend.lf s i 0 == b) (Spend.nl s) 0)) [])))
    (by kernel_rfl) ?_
  refine k_sc (indexL_c (s.17) (s.16) (b) (by assumption)) ?_
  exact k_out (Ent.refl _)

theorem containsS_c (S : Nat → Spend) (n : Nat) (hn : n < 9223372036854775808) : Pure Tryz.prog gl0 96 [.isl 80 n (fun i j => atL (S i).cells j), .fn (.func 175) [] []] (.bool (decide (firstI (fun i => !okS (S i)) n 0 ≥ 0))) := by
  refine pure_sk (own := ow0) Tryz.func96 (by kernel_rfl) mixed (by kernel_rfl)
    (let y0 : AV := (AV.bool (decide (firstI (fun (i : Nat) => !okS (S i)) n 0 ≥ 0))); (.sc (true) 174 ([AV.isl 80 n fun (i j : Nat) => atL (Spend.cells (S i)) j, AV.fn (Fn.func (175 : FuncId)) [] []]) (Zi (firstI (fun (i : Nat) => !okS (S i)) n 0)) (.out y0 [] y0 [])))
    (by kernel_rfl) ?_
  refine k_sc ((indexS_c S n hn)) ?_
  exact k_out (Ent.refl _)

theorem formed_c (S : Nat → Spend) (n : Nat) (hn : n < 9223372036854775808) : Pure Tryz.prog gl0 98 [.isl 80 n (fun i j => atL (S i).cells j)] (.bool (!decide (firstI (fun i => !okS (S i)) n 0 ≥ 0))) := by
  refine pure_sk (own := ow0) Tryz.func98 (by kernel_rfl) mixed (by kernel_rfl)
    (let y0 : AV := (AV.bool !decide (firstI (fun (i : Nat) => !okS (S i)) n 0 ≥ 0)); (.sc (true) 96 ([AV.isl 80 n fun (i j : Nat) => atL (Spend.cells (S i)) j, AV.fn (Fn.func 175) [] []]) (AV.bool (decide (firstI (fun (i : Nat) => !okS (S i)) n 0 ≥ 0))) (.out y0 [] y0 [])))
    (by kernel_rfl) ?_
  refine k_sc ((containsS_c S n hn)) ?_
  exact k_out (Ent.refl _)

theorem shared_c (a b : Spend) (hn : a.nl ≤ 1000) (hb : b.nl ≤ 1000) : Pure Tryz.prog gl0 106 [a.av, b.av] (il .i64 (sharedL a b)) := by
  refine pure_sk (own := ow0) Tryz.func106 (by kernel_rfl) mixed (by kernel_rfl)
    (.br (a.5 != b.5) (.out (AV.nsl) [] (il IntKind.i64 (sharedL a b)) []) (.sc (true) 109 ([AV.agg (Spend.cells a)]) (AV.tup [Zi (bif okS a then spanA (Spend.depth a) (Spend.level a) (Spend.index a) else (0 : Int)), Zi (bif okS a then spanZ (Spend.depth a) (Spend.level a) (Spend.index a) else (0 : Int)), AV.bool (okS a)]) (.loop (Sp.Sub fun (x : Nat) => x ≤ Spend.nl a) (fun (x : Sp.Sub fun (x : Nat) => x ≤ Spend.nl a) => mkSt [3, 5, 8, 25, 26, 27] [AV.own 0 80 0 0 80, Zi (fromS a), AV.osl 1 1 0 (List.length (sharedN a b (x.1))), lvs (Spend.nl a) (Spend.lf a), Zi (↑(Spend.nl a) : Int), Zi (↑(x.1) : Int)] [some ⟨80, 1, true, Rep.lst [Spend.cells b]⟩, ilO IntKind.i64 (sharedN a b (x.1))]) (fun (x : Sp.Sub fun (x : Nat) => x ≤ Spend.nl a) => Spend.nl a - x.1) (⟨0, Nat.zero_le (Spend.nl a)⟩) ([3, 5, 8, 25, 26, 27]) ([8, 449]) ([AV.own 0 80 0 0 80, Zi (bif okS a then spanA a.4 a.11 a.12 else (0 : Int)), AV.nsl, AV.isl 3 a.16 fun (i j : Nat) => Zi (a.17 i j), Zi (↑a.16 : Int), Zi 0]) ([some ⟨80, 1, true, Rep.lst [Spend.cells b]⟩, some ⟨1, 0, true, Rep.lst []⟩]) (fun x3 => (.br (decide ((↑x3.1 : Int) < (↑a.16 : Int))) (.req ((0 : Int) ≤ (↑x3.1 : Int) ∧ (↑x3.1 : Int) < (↑a.16 : Int)) (.sc (true) 110 ([AV.agg (Spend.cells b), Zi (a.17 (Int.toNat (↑x3.1 : Int)) 0)]) (Zi (firstI (fun (i : Nat) => Spend.lf b i 0 == a.17 (Int.toNat (↑x3.1 : Int)) 0) (Spend.nl b) 0)) (.br (decide (firstI (fun (i : Nat) => b.17 i 0 == a.17 (Int.toNat (↑x3.1 : Int)) 0) b.16 0 ≥ 0)) (.req ((List.length (sharedN a b (x3.1)) + 1) * 8 ≤ 140737488355328) (.again (Again 0 (fun (x : Sp.Sub fun (x : Nat) => x ≤ Spend.nl a) => mkSt [3, 5, 8, 25, 26, 27] [AV.own 0 80 0 0 80, Zi (fromS a), AV.osl 1 1 0 (List.length (sharedN a b (x.1))), lvs (Spend.nl a) (Spend.lf a), Zi (↑(Spend.nl a) : Int), Zi (↑(x.1) : Int)] [some ⟨80, 1, true, Rep.lst [Spend.cells b]⟩, ilO IntKind.i64 (sharedN a b (x.1))]) (fun (x : Sp.Sub fun (x : Nat) => x ≤ Spend.nl a) => Spend.nl a - x.1) x3) ([3, 5, 8, 25, 26, 27]) ([0, 138]) ([AV.own 0 80 0 0 80, Zi (fromS a), AV.osl 1 1 0 (List.length (sharedN a b (x3.1)) + 1), AV.isl 3 a.16 fun (i j : Nat) => Zi (a.17 i j), Zi (↑a.16 : Int), Zi (IntKind.wrap IntKind.i64 ((↑x3.1 : Int) + 1))]) ([some ⟨80, 1, true, Rep.lst [Spend.cells b]⟩, some ⟨1, List.length (sharedN a b (x3.1)) + 1, true, Rep.fn fun (i j : Nat) => Zi (bif Nat.blt i (List.length (sharedN a b (x3.1))) then List.getD (sharedN a b (x3.1)) i (0 : Int) else intOfAV (atL [Zi (IntKind.wrap IntKind.i64 (fromS a + (↑(x3.1) : Int)))] j))⟩]))) (.again (Again 0 (fun (x : Sp.Sub fun (x : Nat) => x ≤ Spend.nl a) => mkSt [3, 5, 8, 25, 26, 27] [AV.own 0 80 0 0 80, Zi (fromS a), AV.osl 1 1 0 (List.length (sharedN a b (x.1))), lvs (Spend.nl a) (Spend.lf a), Zi (↑(Spend.nl a) : Int), Zi (↑(x.1) : Int)] [some ⟨80, 1, true, Rep.lst [Spend.cells b]⟩, ilO IntKind.i64 (sharedN a b (x.1))]) (fun (x : Sp.Sub fun (x : Nat) => x ≤ Spend.nl a) => Spend.nl a - x.1) x3) ([3, 5, 8, 25, 26, 27]) ([0, 1]) ([AV.own 0 80 0 0 80, Zi (fromS a), AV.osl 1 1 0 (List.length (sharedN a b (x3.1))), AV.isl 3 a.16 fun (i j : Nat) => Zi (a.17 i j), Zi (↑a.16 : Int), Zi (IntKind.wrap IntKind.i64 ((↑x3.1 : Int) + 1))]) ([some ⟨80, 1, true, Rep.lst [Spend.cells b]⟩, some ⟨1, List.length (sharedN a b (x3.1)), true, Rep.fn fun (i j : Nat) => Zi (List.getD (sharedN a b (x3.1)) i (0 : Int))⟩]))))) (.out (AV.isl 1 (List.length (sharedN a b (x3.1))) fun (r k : Nat) => Zi (List.getD (sharedN a b (x3.1)) (r + 0) (0 : Int))) [] (il IntKind.i64 (sharedL a b)) []))))))
    (by kernel_rfl) ?_
  refine k_br (fun h0 => ?_) (fun h0 => ?_)
  · have g0 := cnd_bne_t h0
    exact k_out (Ent.nilL (shared_none h0))
  · have g0 := cnd_bne_f h0
    refine k_sc ((xspan_c a)) ?_
    refine k_loop (fun _ hs => hs.le (by repeat' (first | exact trivial | (first | exact Ent.refl _ | exact inc_ent (by omega) | exact Ent.nil rfl | exact Ent.of_eq (congrArg (AV.osl _ _ _) (by first | omega | (dsimp only; omega))) | exact Ent.of_eq (congrArg (AV.int _) (by omega))) | refine And.intro ?_ ?_)) (by repeat' (first | exact trivial | (first | exact ObEnt.refl _ | exact ObEnt.junk | exact ObEnt.zero | exact ObEnt.push rfl rfl | exact ObEnt.pushRow rfl | exact ObEnt.len (by omega) | exact ObEnt.row (by repeat' (first | exact trivial | (first | exact Ent.refl _ | exact inc_ent (by omega) | exact Ent.nil rfl | exact Ent.of_eq (congrArg (AV.osl _ _ _) (by first | omega | (dsimp only; omega))) | exact Ent.of_eq (congrArg (AV.int _) (by omega))) | refine And.intro ?_ ?_))) | refine And.intro ?_ ?_))) (fun x3 => ?_)
    try (have q3 := x3.2; dsimp only at q3)
    refine k_br (fun h4 => ?_) (fun h4 => ?_)
    · have g4 := cnd_dec_t h4
      refine k_req (by omega) ?_
      refine k_sc ((find_c b) (a.17 (Int.toNat (↑x3.1 : Int)) (0)) (by omega)) ?_
      refine k_br (fun h7 => ?_) (fun h7 => ?_)
      · have g7 := cnd_dec_t h7
        try simp only [Int.toNat_natCast] at g7
        refine k_req (by have := sharedN_len a b x3.1; omega) ?_
        exact k_again (⟨x3.1 + 1, by have := of_decide_eq_true h4; omega⟩) (fun _ hs => hs.le (⟨Ent.refl _, Ent.refl _, Ent.of_eq (congrArg (AV.osl 1 1 0) (sharedN_lt (x := x3.1) h7)), Ent.refl _, Ent.refl _, inc_ent (by omega), trivial⟩) (⟨.refl _, .pushL (sharedN_w (x := x3.1) (by omega) h7), trivial⟩)) (by (dsimp only; omega))
      · have g7 := cnd_dec_f h7
        try simp only [Int.toNat_natCast] at g7
        exact k_again (⟨x3.1 + 1, by have := of_decide_eq_true h4; omega⟩) (fun _ hs => hs.le (⟨Ent.refl _, Ent.refl _, Ent.of_eq (congrArg (AV.osl 1 1 0) (sharedN_lf (x := x3.1) h7)), Ent.refl _, Ent.refl _, inc_ent (by omega), trivial⟩) (⟨.refl _, shared_same (x := x3.1) h7, trivial⟩)) (by (dsimp only; omega))
    · have g4 := cnd_dec_f h4
      exact k_out (Ent.ilL (shared_end h0 (by have := of_decide_eq_false h4; omega)))

theorem formed2_c (a b : Spend) : Pure Tryz.prog gl0 98 [.isl 80 2 fun r k => atL (List.getD [a.cells, b.cells] r []) k] (.bool (okS a && okS b)) := by
  refine Pure.ent (Pure.via (formed_c (fun i => bif Nat.beq i 0 then a else b) 2 (by omega)) ?_) (Ent.of_eq (congrArg _ (formed2_m a b)))
  exact ⟨Ent.two (g := fun i => Spend.cells (bif Nat.beq i 0 then a else b)) rfl rfl, trivial⟩

theorem xshared_c (a b : Spend) (hn : a.nl ≤ 1000) (hb : b.nl ≤ 1000) : Pure Tryz.prog gl0 43 [a.av, b.av] (.tup [il .i64 (bif okS a && okS b then sharedL a b else []), .int .i64 (bif okS a && okS b then 0 else 1)]) := by
  refine pure_sk (own := ow0) Tryz.func43 (by kernel_rfl) mixed (by kernel_rfl)
    (let y0 : AV := (AV.tup [il IntKind.i64 (bif okS a && okS b then sharedL a b else []), Zi (bif okS a && okS b then (0 : Int) else (1 : Int))]); (.sc (true) 98 ([AV.isl 80 2 fun (r k : Nat) => atL (List.getD [Spend.cells a, Spend.cells b] (r + 0) []) k]) (AV.bool (okS a && okS b)) (.br (!(okS a && okS b)) (.out (AV.tup [AV.nsl, Zi 1]) [] y0 []) (.dc (true) 106 ([AV.agg (Spend.cells a), AV.agg (Spend.cells b)]) (il IntKind.i64 (sharedL a b)) (.out (AV.tup [AV.isl 1 (List.length (sharedL a b)) fun (i x : Nat) => Zi (List.getD (sharedL a b) i (0 : Int)), Zi 0]) [] y0 [])))))
    (by kernel_rfl) ?_
  refine k_sc ((formed2_c a b)) ?_
  refine k_br (fun h1 => ?_) (fun h1 => ?_)
  · have g1 := (cnd_not_t (cnd_and_f cnd_id_f cnd_id_f)) h1
    exact k_out (Ent.tup ⟨Ent.nilL (bif_f (not_both h1)), Ent.of_eq (congrArg _ (bif_f (not_both h1)).symm), trivial⟩)
  · have g1 := (cnd_not_f (cnd_and_t cnd_id_t cnd_id_t)) h1
    refine k_dc (shared_c (a) (b) (by assumption) (by assumption)) ?_
    exact k_out (Ent.tup ⟨Ent.ilL (bif_t (both h1)).symm, Ent.of_eq (congrArg _ (bif_t (both h1)).symm), trivial⟩)

theorem rogueformed_c (s : Spend) (hn : s.nl ≤ 1000) : Pure Tryz.prog gl0 114 [s.av] (.bool (okS s)) := by
  refine pure_sk (own := ow0) Tryz.func114 (by kernel_rfl) mixed (by kernel_rfl)
    (.dc (true) 43 ([AV.agg (Spend.cells s), AV.agg (Spend.cells s)]) (AV.tup [il IntKind.i64 (bif okS s && okS s then sharedL s s else []), Zi (bif okS s && okS s then (0 : Int) else (1 : Int))]) (.out (AV.bool ((bif okS s && okS s then (0 : Int) else (1 : Int)) == 0)) [] (AV.bool (okS s)) []))
    (by kernel_rfl) ?_
  refine k_dc (xshared_c (s) (s) (by assumption) (by assumption)) ?_
  exact k_out (Ent.of_eq (congrArg _ (by cases okS s <;> rfl)))

end Go.Proofs.YtdaaddkipdmajaaGreatDoor

namespace Go.Sp
open Go Go.Am
def chalE (b : Bas) (c : Coin) (l i : Int) (x : Cxt) : Int := bif validB b then (bif nodeB c.depth l i && ctxB x.time x.number then 0 else 2) else 1
def chalK (b : Bas) (c : Coin) (l i : Int) (x : Cxt) : Int := bif validB b && (nodeB c.depth l i && ctxB x.time x.number) then chalN b.gr.q c l i x else 0
theorem validB_ok {b : Bas} (h : validB b = true) : b.gr.Ok := by
  unfold validB at h
  simp only [Bool.and_eq_true] at h
  exact validG_iff.1 h.1.1.1.1.1.1
theorem validB_q {b : Bas} (h : validB b = true) : 0 < b.gr.q ∧ b.gr.q < 2305843009213693952 := by
  have h := validB_ok h
  have := h.qp; have := h.q3; have := h.p1
  omega
theorem chal_1 {b : Bas} {c : Coin} {l i : Int} {x : Cxt} (h : validB b = false) : chalE b c l i x = 1 ∧ chalK b c l i x = 0 := by
  unfold chalE chalK; rw [h]; exact ⟨rfl, rfl⟩
theorem chal_2 {b : Bas} {c : Coin} {l i : Int} {x : Cxt} (h : validB b = true) (h' : nodeB c.depth l i = false ∨ ctxB x.time x.number = false) : chalE b c l i x = 2 ∧ chalK b c l i x = 0 := by
  have e : (nodeB c.depth l i && ctxB x.time x.number) = false := by rcases h' with e | e <;> simp [e]
  unfold chalE chalK; rw [h, e]; exact ⟨rfl, rfl⟩
theorem chal_3 {b : Bas} {c : Coin} {l i : Int} {x : Cxt} (h : validB b = true) (h' : nodeB c.depth l i = true ∧ ctxB x.time x.number = true) : chalE b c l i x = 0 ∧ chalK b c l i x = chalN b.gr.q c l i x := by
  have e : (nodeB c.depth l i && ctxB x.time x.number) = true := by simp [h']
  unfold chalE chalK; rw [h, e]; exact ⟨rfl, rfl⟩
theorem span_d {d l i : Int} (hn : nodeB d l i = true) : spanE d l i = 0 ∧ 0 ≤ l ∧ l ≤ d ∧ 0 ≤ d ∧ d ≤ 5 := by
  have h := node_t hn
  refine ⟨?_, by omega, by omega, by omega, by omega⟩
  unfold spanE
  rw [if_neg (by omega), if_pos hn]
end Go.Sp

namespace Go.Sp
open Go Go.Am
def Spend.coin (s : Spend) : Coin := ⟨s.bank, s.epoch, s.denom, s.depth, s.a, s.root, s.z, s.sa, s.sb, s.r⟩
def Spend.cxt (s : Spend) : Cxt := ⟨s.payee, s.time, s.number⟩
structure Spend.By (s : Spend) : Prop where
  root : byB s.root 32
  payee : byB s.payee 32
def chS (b : Bas) (s : Spend) : Int := chalN b.gr.q s.coin s.level s.index s.cxt
def scB (b : Bas) (x : Int) : Bool := decide (x ≥ 0) && decide (x < b.gr.q)
theorem okS_all {s : Spend} (h : okS s = true) : nodeB s.depth s.level s.index = true ∧ ctxB s.time s.number = true ∧ fromS s = spanA s.depth s.level s.index ∧ toS s = spanZ s.depth s.level s.index ∧ (s.nl : Int) = toS s - fromS s := by
  have hf : fromS s = spanA s.depth s.level s.index := by unfold fromS; rw [h]; rfl
  have ht : toS s = spanZ s.depth s.level s.index := by unfold toS; rw [h]; rfl
  have hn : nodeB s.depth s.level s.index = true := by
    cases hb : nodeB s.depth s.level s.index with
    | true => rfl
    | false =>
      exfalso
      unfold okS at h
      simp [spanE, hb] at h
      omega
  have hb := fromS_bnd s
  have hz : 0 ≤ toS s ∧ toS s ≤ 2000 := by
    rw [ht]
    unfold spanZ
    rw [if_pos hn]
    obtain ⟨h1, h2, h3, h4, h5, h6⟩ := node_t hn
    obtain ⟨q1, _, q2, q3⟩ := p2 (k := s.depth - s.level) (by omega) (by omega)
    obtain ⟨_, _, r2, r3⟩ := p2 (k := s.level) (by omega) (by omega)
    obtain ⟨b1, b2, b3, b4⟩ := bnd h5 h6 r3 q2 q3
    omega
  refine ⟨hn, ?_, hf, ht, ?_⟩
  · unfold okS at h
    unfold ctxB
    simp at h ⊢
    omega
  · unfold okS at h
    rw [← hf, ← ht, wI (by omega) (by omega)] at h
    simp at h
    omega
theorem okS_nl {s : Spend} (h : okS s = true) : toS s ≤ 2000 := by
  obtain ⟨hn, _, _, ht, _⟩ := okS_all h
  rw [ht]
  unfold spanZ
  rw [if_pos hn]
  obtain ⟨h1, h2, h3, h4, h5, h6⟩ := node_t hn
  obtain ⟨q1, _, q2, q3⟩ := p2 (k := s.depth - s.level) (by omega) (by omega)
  obtain ⟨_, _, r2, r3⟩ := p2 (k := s.level) (by omega) (by omega)
  obtain ⟨b1, b2, b3, b4⟩ := bnd h5 h6 r3 q2 q3
  omega
def mateS (s t : Spend) (i : Nat) : Nat := (firstI (fun k => t.lf k 0 == s.lf i 0) t.nl 0).toNat
def leafN (s : Spend) (leaf : Int) : Nat := (leaf - fromS s).toNat
noncomputable def secR (b : Bas) (s t : Spend) (leaf : Int) : Int × Int :=
  if validB b = false ∨ (okS s && okS t) = false then (0, 1)
  else if leaf < fromS s ∨ toS s ≤ leaf then (0, 2)
  else if ¬ (s.a = t.a ∧ found t (s.lf (leafN s leaf) 0) = true) then (0, 7)
  else if scB b (s.lf (leafN s leaf) 1) = false ∨ scB b (s.lf (leafN s leaf) 2) = false ∨ scB b (t.lf (mateS s t (leafN s leaf)) 1) = false ∨ scB b (t.lf (mateS s t (leafN s leaf)) 2) = false then (0, 2)
  else if chS b s = chS b t then (0, 20)
  else if s.lf (leafN s leaf) 2 = t.lf (mateS s t (leafN s leaf)) 2 then (0, 10)
  else ((s.lf (leafN s leaf) 1 - t.lf (mateS s t (leafN s leaf)) 1) % b.gr.q * invF ((s.lf (leafN s leaf) 2 - t.lf (mateS s t (leafN s leaf)) 2) % b.gr.q) b.gr.q % b.gr.q, 0)
theorem shared_has {s t : Spend} {leaf : Int} (h : okS s = true) (h1 : ¬ (leaf < fromS s ∨ toS s ≤ leaf)) : leaf ∈ sharedL s t ↔ (s.a = t.a ∧ found t (s.lf (leafN s leaf) 0) = true) := by
  obtain ⟨_, _, _, _, hn⟩ := okS_all h
  unfold sharedL
  by_cases ha : s.a = t.a
  · rw [if_neg (by simp [ha])]
    unfold sharedN leafN
    simp only [List.mem_map, List.mem_filter, List.mem_range]
    constructor
    · rintro ⟨i, ⟨hi, hf⟩, rfl⟩
      refine ⟨ha, ?_⟩
      rw [show (fromS s + (i : Int) - fromS s).toNat = i by omega]
      exact hf
    · rintro ⟨_, hf⟩
      exact ⟨(leaf - fromS s).toNat, ⟨by omega, hf⟩, by omega⟩
  · rw [if_pos ha]
    simp [ha]
theorem mate_lt {s t : Spend} {i : Nat} (h : found t (s.lf i 0) = true) : mateS s t i < t.nl ∧ firstI (fun k => t.lf k 0 == s.lf i 0) t.nl 0 = (mateS s t i : Nat) := by
  have h0 : firstI (fun k => t.lf k 0 == s.lf i 0) t.nl 0 ≥ 0 := of_decide_eq_true h
  have h1 := firstI_lt (p := fun k => t.lf k 0 == s.lf i 0) t.nl 0
  unfold mateS
  constructor <;> omega
theorem first_mem {l : List Int} {v : Int} : (decide (firstI (fun i => l.getD i 0 == v) l.length 0 ≥ 0)) = decide (v ∈ l) := by
  rw [firstI_neg]
  rw [Bool.eq_iff_iff]
  simp only [Nat.zero_add, List.any_eq_true, List.mem_range, beq_iff_eq, decide_eq_true_eq]
  constructor
  · rintro ⟨i, hi, rfl⟩
    rw [List.getD_eq_getElem?_getD, List.getElem?_eq_getElem hi]
    exact List.getElem_mem hi
  · intro h
    obtain ⟨i, hi, rfl⟩ := List.mem_iff_getElem.1 h
    exact ⟨i, hi, by rw [List.getD_eq_getElem?_getD, List.getElem?_eq_getElem hi]; rfl⟩
theorem leaf_w {s : Spend} {leaf : Int} (h : okS s = true) (h1 : ¬ (leaf < fromS s ∨ toS s ≤ leaf)) : 0 ≤ IntKind.wrap .i64 (leaf - fromS s) ∧ IntKind.wrap .i64 (leaf - fromS s) < s.nl ∧ Int.toNat (IntKind.wrap .i64 (leaf - fromS s)) = leafN s leaf := by
  obtain ⟨_, _, _, _, hn⟩ := okS_all h
  have hb := fromS_bnd s
  have hz : toS s ≤ 2000 := by
    have := okS_nl h
    omega
  rw [wI (by omega) (by omega)]
  exact ⟨by omega, by omega, rfl⟩
theorem sec_1 {b : Bas} {s t : Spend} {leaf : Int} (h : validB b = false ∨ okS s = false ∨ okS t = false) : secR b s t leaf = (0, 1) := by
  unfold secR; grind
theorem sec_2 {b : Bas} {s t : Spend} {leaf : Int} (h : validB b = true ∧ okS s = true ∧ okS t = true) (h1 : leaf < fromS s ∨ toS s ≤ leaf) : secR b s t leaf = (0, 2) := by
  unfold secR; grind
theorem sec_3 {b : Bas} {s t : Spend} {leaf : Int} (h : validB b = true ∧ okS s = true ∧ okS t = true) (h1 : ¬ (leaf < fromS s ∨ toS s ≤ leaf)) (h2 : ¬ leaf ∈ sharedL s t) : secR b s t leaf = (0, 7) := by
  rw [shared_has h.2.1 h1] at h2
  unfold secR; grind
theorem sec_4 {b : Bas} {s t : Spend} {leaf : Int} (h : validB b = true ∧ okS s = true ∧ okS t = true) (h1 : ¬ (leaf < fromS s ∨ toS s ≤ leaf)) (h2 : leaf ∈ sharedL s t)
    (h3 : scB b (s.lf (leafN s leaf) 1) = false ∨ scB b (s.lf (leafN s leaf) 2) = false ∨ scB b (t.lf (mateS s t (leafN s leaf)) 1) = false ∨ scB b (t.lf (mateS s t (leafN s leaf)) 2) = false) : secR b s t leaf = (0, 2) := by
  rw [shared_has h.2.1 h1] at h2
  unfold secR; grind
theorem sec_5 {b : Bas} {s t : Spend} {leaf : Int} (h : validB b = true ∧ okS s = true ∧ okS t = true) (h1 : ¬ (leaf < fromS s ∨ toS s ≤ leaf)) (h2 : leaf ∈ sharedL s t)
    (h3 : scB b (s.lf (leafN s leaf) 1) = true ∧ scB b (s.lf (leafN s leaf) 2) = true ∧ scB b (t.lf (mateS s t (leafN s leaf)) 1) = true ∧ scB b (t.lf (mateS s t (leafN s leaf)) 2) = true) (h4 : chS b s = chS b t) : secR b s t leaf = (0, 20) := by
  rw [shared_has h.2.1 h1] at h2
  unfold secR; grind
theorem sec_6 {b : Bas} {s t : Spend} {leaf : Int} (h : validB b = true ∧ okS s = true ∧ okS t = true) (h1 : ¬ (leaf < fromS s ∨ toS s ≤ leaf)) (h2 : leaf ∈ sharedL s t)
    (h3 : scB b (s.lf (leafN s leaf) 1) = true ∧ scB b (s.lf (leafN s leaf) 2) = true ∧ scB b (t.lf (mateS s t (leafN s leaf)) 1) = true ∧ scB b (t.lf (mateS s t (leafN s leaf)) 2) = true) (h4 : ¬ chS b s = chS b t)
    (h5 : s.lf (leafN s leaf) 2 = t.lf (mateS s t (leafN s leaf)) 2) : secR b s t leaf = (0, 10) := by
  rw [shared_has h.2.1 h1] at h2
  unfold secR; grind
theorem sec_7 {b : Bas} {s t : Spend} {leaf : Int} (h : validB b = true ∧ okS s = true ∧ okS t = true) (h1 : ¬ (leaf < fromS s ∨ toS s ≤ leaf)) (h2 : leaf ∈ sharedL s t)
    (h3 : scB b (s.lf (leafN s leaf) 1) = true ∧ scB b (s.lf (leafN s leaf) 2) = true ∧ scB b (t.lf (mateS s t (leafN s leaf)) 1) = true ∧ scB b (t.lf (mateS s t (leafN s leaf)) 2) = true) (h4 : ¬ chS b s = chS b t)
    (h5 : ¬ s.lf (leafN s leaf) 2 = t.lf (mateS s t (leafN s leaf)) 2) : secR b s t leaf = ((s.lf (leafN s leaf) 1 - t.lf (mateS s t (leafN s leaf)) 1) % b.gr.q * invF ((s.lf (leafN s leaf) 2 - t.lf (mateS s t (leafN s leaf)) 2) % b.gr.q) b.gr.q % b.gr.q, 0) := by
  rw [shared_has h.2.1 h1] at h2
  unfold secR
  rw [if_neg (by simp [h]), if_neg h1, if_neg (by simp [h2]), if_neg (by simp [h3]), if_neg h4, if_neg h5]
theorem scB_t {b : Bas} {x : Int} (h : scB b x = true) : 0 ≤ x ∧ x < b.gr.q := by
  unfold scB at h
  simpa using h
theorem sub_q {x y q : Int} (hx : 0 ≤ x ∧ x < q) (hy : 0 ≤ y ∧ y < q) (hq : q < 2305843009213693952) : Int.tmod (IntKind.wrap .i64 (IntKind.wrap .i64 (x - y) + q)) q = (x - y) % q ∧ 0 ≤ (x - y) % q ∧ (x - y) % q < q := by
  rw [wI (n := x - y) (by omega) (by omega), wI (by omega) (by omega), tmod_nn (by omega), Int.add_emod_right]
  exact ⟨rfl, Int.emod_nonneg _ (by omega), Int.emod_lt_of_pos _ (by omega)⟩
theorem chS_of {b : Bas} {s : Spend} (h : validB b = true) (h' : okS s = true) : chalE b s.coin s.level s.index s.cxt = 0 ∧ chalK b s.coin s.level s.index s.cxt = chS b s :=
  have h2 := okS_all h'
  chal_3 h ⟨h2.1, h2.2.1⟩
theorem sharedL_len (s t : Spend) : (sharedL s t).length ≤ s.nl := by
  unfold sharedL
  split
  · exact Nat.zero_le _
  · exact sharedN_len _ _ _
theorem or4 {A B C D : Prop} (h : ((A ∨ B) ∨ C) ∨ D) : A ∨ B ∨ C ∨ D := by rcases h with ((h | h) | h) | h <;> simp [h]
theorem and4 {A B C D : Prop} (h : ((A ∧ B) ∧ C) ∧ D) : A ∧ B ∧ C ∧ D := ⟨h.1.1.1, h.1.1.2, h.1.2, h.2⟩
end Go.Sp

namespace Go.Proofs.YtdaaddkipdmajaaGreatDoor
open Go Go.Am Go.Sp
set_option maxRecDepth 100000

theorem chall_c (b : Bas) (c : Coin) (l i : Int) (x : Cxt) (hw : b.gr.W) (hr : byB c.root 32) (hp : byB x.payee 32) : Pure Tryz.prog gl0 54 [b.av, c.av, .agg [.int .i64 l, .int .i64 i], x.av] (.tup [.int .i64 (chalK b c l i x), .int .i64 (chalE b c l i x)]) := by
  have hc := fun h h' => chal_c b c l i x hr hp h h'
  have hx := context_c x
  have hv := bvalid_c b hw
  refine pure_sk (own := ow0) Tryz.func54 (by kernel_rfl) mixed (by kernel_rfl)
    (let y0 : AV := (AV.tup [Zi (chalK b c l i x), Zi (chalE b c l i x)]); (.sc (true) 52 ([AV.agg (Bas.cells b)]) (AV.bool (validB b)) (.br (!validB b) (.out (AV.tup [Zi 0, Zi 1]) [] y0 []) (.sc (true) 68 ([Zi c.4, AV.agg [Zi l, Zi i]]) (AV.bool (nodeB c.4 l i)) (.sc ((!nodeB c.4 l i) == false) 69 ([AV.agg (u8c x.1 ++ [Zi x.2, Zi x.3])]) (AV.bool (ctxB (Cxt.time x) (Cxt.number x))) (.br (!nodeB c.4 l i || !ctxB x.2 x.3) (.out (AV.tup [Zi 0, Zi 2]) [] y0 []) (.sc (true) 70 ([AV.agg (Bas.cells b), AV.agg (Coin.cells c), AV.agg [Zi l, Zi i], AV.agg (u8c x.1 ++ [Zi x.2, Zi x.3])]) (Zi (chalN (Grp.q (Bas.gr b)) c l i x)) (.out (AV.tup [Zi (chalN (Bas.gr b).2 c l i x), Zi 0]) [] y0 []))))))))
    (by kernel_rfl) ?_
  refine k_sc (hv) ?_
  refine k_br (fun h1 => ?_) (fun h1 => ?_)
  · have g1 := (cnd_not_t cnd_id_f) h1
    exact k_out (Ent.of_eq (by rw [(chal_1 g1).1, (chal_1 g1).2]))
  · have g1 := (cnd_not_f cnd_id_t) h1
    refine k_sc (node_c (c.4) (l) (i)) ?_
    refine k_scg (fun h4 => hx) ?_
    refine k_br (fun h5 => ?_) (fun h5 => ?_)
    · have g5 := (cnd_or_t (cnd_not_t cnd_id_f) (cnd_not_t cnd_id_f)) h5
      exact k_out (Ent.of_eq (by rw [(chal_2 g1 g5).1, (chal_2 g1 g5).2]))
    · have g5 := (cnd_or_f (cnd_not_f cnd_id_t) (cnd_not_f cnd_id_t)) h5
      refine k_sc (hc ((validB_q g1).1) ((validB_q g1).2)) ?_
      exact k_out (Ent.of_eq (by rw [(chal_3 g1 g5).1, (chal_3 g1 g5).2]))

theorem indexN_c (l : List Int) (v : Int) (hn : l.length < 9223372036854775808) : Pure Tryz.prog gl0 152 [il .i64 l, .int .i64 v] (.int .i64 (firstI (fun i => l.getD i 0 == v) l.length 0)) := by
  refine pure_sk (own := ow0) Tryz.func152 (by kernel_rfl) mixed (by kernel_rfl)
    (let y0 : AV := (Zi (firstI (fun (i : Nat) => List.getD l i (0 : Int) == v) (List.length l) 0)); (.loop ({ x : Nat // x ≤ List.length l ∧ (fun (i : Nat) => firstI (fun (i : Nat) => List.getD l i (0 : Int) == v) (List.length l) 0 = firstI (fun (i : Nat) => List.getD l i (0 : Int) == v) (List.length l - i) i) x }) (fun (x : { x : Nat // x ≤ List.length l ∧ (fun (i : Nat) => firstI (fun (i : Nat) => List.getD l i (0 : Int) == v) (List.length l) 0 = firstI (fun (i : Nat) => List.getD l i (0 : Int) == v) (List.length l - i) i) x }) => mkSt [0, 1, 7, 8] [AV.isl 1 (List.length l) fun (i x : Nat) => Zi (List.getD l i (0 : Int)), Zi v, Zi (↑(List.length l) : Int), Zi (↑(x.1) : Int)] []) (fun (x : { x : Nat // x ≤ List.length l ∧ (fun (i : Nat) => firstI (fun (i : Nat) => List.getD l i (0 : Int) == v) (List.length l) 0 = firstI (fun (i : Nat) => List.getD l i (0 : Int) == v) (List.length l - i) i) x }) => List.length l - x.1) (⟨0, ⟨Nat.zero_le (List.length l), rfl⟩⟩) ([0, 1, 7, 8]) ([]) ([AV.isl 1 (List.length l) fun (i x : Nat) => Zi (List.getD l i (0 : Int)), Zi v, Zi (↑(List.length l) : Int), Zi 0]) ([]) (fun x0 => (.br (decide ((↑x0.1 : Int) < (↑(List.length l) : Int))) (.req ((0 : Int) ≤ (↑x0.1 : Int) ∧ (↑x0.1 : Int) < (↑(List.length l) : Int)) (.br (v == List.getD l (Int.toNat (↑x0.1 : Int)) (0 : Int)) (.out (Zi (↑x0.1 : Int)) [] y0 []) (.again (Again 0 (fun (x : { x : Nat // x ≤ List.length l ∧ (fun (i : Nat) => firstI (fun (i : Nat) => List.getD l i (0 : Int) == v) (List.length l) 0 = firstI (fun (i : Nat) => List.getD l i (0 : Int) == v) (List.length l - i) i) x }) => mkSt [0, 1, 7, 8] [AV.isl 1 (List.length l) fun (i x : Nat) => Zi (List.getD l i (0 : Int)), Zi v, Zi (↑(List.length l) : Int), Zi (↑(x.1) : Int)] []) (fun (x : { x : Nat // x ≤ List.length l ∧ (fun (i : Nat) => firstI (fun (i : Nat) => List.getD l i (0 : Int) == v) (List.length l) 0 = firstI (fun (i : Nat) => List.getD l i (0 : Int) == v) (List.length l - i) i) x }) => List.length l - x.1) x0) ([0, 1, 7, 8]) ([]) ([AV.isl 1 (List.length l) fun (i x : Nat) => Zi (List.getD l i (0 : Int)), Zi v, Zi (↑(List.length l) : Int), Zi (IntKind.wrap IntKind.i64 ((↑x0.1 : Int) + 1))]) ([])))) (.out (Zi (-1)) [] y0 [])))))
    (by kernel_rfl) ?_
  refine k_loop (fun _ hs => hs.le (⟨.refl _, .refl _, .refl _, .refl _, trivial⟩) (trivial)) (fun x0 => ?_)
  try (have q0 := x0.2; dsimp only at q0)
  refine k_br (fun h1 => ?_) (fun h1 => ?_)
  · have g1 := cnd_dec_t h1
    refine k_req (by omega) ?_
    refine k_br (fun h3 => ?_) (fun h3 => ?_)
    · have g3 := cnd_beq_t h3
      try simp only [Int.toNat_natCast] at g3
      exact k_out (Ent.of_eq (congrArg _ (first_hit x0.2.2 (by omega) (by simp only [beq_iff_eq]; exact g3.symm))))
    · have g3 := cnd_beq_f h3
      try simp only [Int.toNat_natCast] at g3
      exact k_again (⟨x0.1 + 1, by omega, first_next x0.2.2 (by omega) (by simp only [beq_eq_false_iff_ne]; exact fun e => g3 e.symm)⟩) (fun _ hs => hs.le (⟨.refl _, .refl _, .refl _, inc_ent (by omega), trivial⟩) (trivial)) (by dsimp only; omega)
  · have g1 := cnd_dec_f h1
    exact k_out (Ent.of_eq (congrArg _ (first_miss x0.2.2 (by omega))))

theorem containsN_c (l : List Int) (v : Int) (hn : l.length < 9223372036854775808) : Pure Tryz.prog gl0 72 [il .i64 l, .int .i64 v] (.bool (decide (v ∈ l))) := by
  refine pure_sk (own := ow0) Tryz.func72 (by kernel_rfl) mixed (by kernel_rfl)
    (.sc (true) 152 ([AV.isl 1 (List.length l) fun (i x : Nat) => Zi (List.getD l i (0 : Int)), Zi v]) (Zi (firstI (fun (i : Nat) => List.getD l i (0 : Int) == v) (List.length l) 0)) (.out (AV.bool (decide (firstI (fun (i : Nat) => List.getD l i (0 : Int) == v) (List.length l) 0 ≥ 0))) [] (AV.bool (decide (v ∈ l))) []))
    (by kernel_rfl) ?_
  refine k_sc (indexN_c (l) (v) (by assumption)) ?_
  exact k_out (Ent.of_eq (congrArg _ first_mem))

theorem xscalar_c (b : Bas) (x : Int) : Pure Tryz.prog gl0 111 [b.av, .int .i64 x] (.bool (scB b x)) := by
  refine pure_sk (own := ow0) Tryz.func111 (by kernel_rfl) mixed (by kernel_rfl)
    (.out (AV.bool (decide (x ≥ 0) && decide (x < (Bas.gr b).2))) [] (AV.bool (scB b x)) [])
    (by kernel_rfl) ?_
  exact k_out (Ent.refl _)

theorem xspan_f (s : Spend) : Pure Tryz.prog gl0 109 [s.av] (.tup [.int .i64 (fromS s), .int .i64 (toS s), .bool (okS s)]) := xspan_c s

theorem secret_c (b : Bas) (s t : Spend) (leaf : Int) (hw : b.gr.W) (hs : s.nl ≤ 1000) (ht : t.nl ≤ 1000) (bs : s.By) (bt : t.By) : Pure Tryz.prog gl0 44 [b.av, s.av, t.av, .int .i64 leaf] (.tup [.int .i64 (secR b s t leaf).1, .int .i64 (secR b s t leaf).2]) := by
  have c1 := bvalid_c b hw
  have c2 := formed2_c s t
  have c3 := chall_c b s.coin s.level s.index s.cxt hw bs.root bs.payee
  have c4 := chall_c b t.coin t.level t.index t.cxt hw bt.root bt.payee
  have c5 := xspan_f s
  have c6 := shared_c s t hs ht
  have c7 := fun v h => containsN_c (sharedL s t) v h
  have c8 := find_c t
  have c9 := xscalar_c b
  have sl := sharedL_len s t
  have L := fun h h' => leaf_w (s := s) (leaf := leaf) h h'
  have hq := fun h => validB_q (b := b) h
  have k1 := fun h h' => chS_of (b := b) (s := s) h h'
  have k2 := fun h h' => chS_of (b := b) (s := t) h h'
  refine pure_sk (own := ow0) Tryz.func44 (by kernel_rfl) mixed (by kernel_rfl)
    (let y0 : Nat := (Int.toNat (IntKind.wrap IntKind.i64 (leaf - fromS s))); let y1 : Nat := (Int.toNat (firstI (fun (i : Nat) => t.17 i 0 == s.17 y0 0) t.16 0)); let y2 : AV := (AV.tup [Zi (Prod.fst (secR b s t leaf)), Zi (Prod.snd (secR b s t leaf))]); (.sc (true) 52 ([AV.agg (Bas.cells b)]) (AV.bool (validB b)) (.sc ((!validB b) == false) 98 ([AV.isl 80 2 fun (r k : Nat) => atL (List.getD [Spend.cells s, Spend.cells t] (r + 0) []) k]) (AV.bool (okS s && okS t)) (.br (!validB b || !(okS s && okS t)) (.out (AV.tup [Zi 0, Zi 1]) [] y2 []) (.sc (true) 109 ([AV.agg (Spend.cells s)]) (AV.tup [Zi (fromS s), Zi (toS s), AV.bool (okS s)]) (.br (decide (leaf < fromS s) || decide (leaf ≥ toS s)) (.out (AV.tup [Zi 0, Zi 2]) [] y2 []) (.dc (true) 106 ([AV.agg (Spend.cells s), AV.agg (Spend.cells t)]) (il IntKind.i64 (sharedL s t)) (.sc (true) 72 ([AV.isl 1 (List.length (sharedL s t)) fun (i x : Nat) => Zi (List.getD (sharedL s t) i (0 : Int)), Zi leaf]) (AV.bool (decide (leaf ∈ sharedL s t))) (.br (!decide (leaf ∈ sharedL s t)) (.out (AV.tup [Zi 0, Zi 7]) [] y2 []) (.req ((0 : Int) ≤ IntKind.wrap IntKind.i64 (leaf - fromS s) ∧ IntKind.wrap IntKind.i64 (leaf - fromS s) < (↑s.16 : Int)) (.sc (true) 110 ([AV.agg (Spend.cells t), Zi (s.17 y0 0)]) (Zi (firstI (fun (i : Nat) => Spend.lf t i 0 == s.17 y0 0) (Spend.nl t) 0)) (.req ((0 : Int) ≤ firstI (fun (i : Nat) => t.17 i 0 == s.17 y0 0) t.16 0 ∧ firstI (fun (i : Nat) => t.17 i 0 == s.17 y0 0) t.16 0 < (↑t.16 : Int)) (.sc (true) 111 ([AV.agg (Bas.cells b), Zi (s.17 y0 1)]) (AV.bool (scB b (s.17 y0 1))) (.sc ((!scB b (s.17 y0 1)) == false) 111 ([AV.agg (Bas.cells b), Zi (s.17 y0 2)]) (AV.bool (scB b (s.17 y0 2))) (.sc ((!scB b (s.17 y0 1) || !scB b (s.17 y0 2)) == false) 111 ([AV.agg (Bas.cells b), Zi (t.17 y1 1)]) (AV.bool (scB b (t.17 y1 1))) (.sc ((!scB b (s.17 y0 1) || !scB b (s.17 y0 2) || !scB b (t.17 y1 1)) == false) 111 ([AV.agg (Bas.cells b), Zi (t.17 y1 2)]) (AV.bool (scB b (t.17 y1 2))) (.br (!scB b (s.17 y0 1) || !scB b (s.17 y0 2) || !scB b (t.17 y1 1) || !scB b (t.17 y1 2)) (.out (AV.tup [Zi 0, Zi 2]) [] y2 []) (.sc (true) 54 ([AV.agg (Bas.cells b), AV.agg (Zi s.1 :: Zi s.2 :: Zi s.3 :: Zi s.4 :: Zi s.5 :: (u8c s.6 ++ [Zi s.7, Zi s.8, Zi s.9, Zi s.10])), AV.agg [Zi s.11, Zi s.12], AV.agg (u8c s.13 ++ [Zi s.14, Zi s.15])]) (AV.tup [Zi (chalK b (Spend.coin s) (Spend.level s) (Spend.index s) (Spend.cxt s)), Zi (chalE b (Spend.coin s) (Spend.level s) (Spend.index s) (Spend.cxt s))]) (.sc (true) 54 ([AV.agg (Bas.cells b), AV.agg (Zi t.1 :: Zi t.2 :: Zi t.3 :: Zi t.4 :: Zi t.5 :: (u8c t.6 ++ [Zi t.7, Zi t.8, Zi t.9, Zi t.10])), AV.agg [Zi t.11, Zi t.12], AV.agg (u8c t.13 ++ [Zi t.14, Zi t.15])]) (AV.tup [Zi (chalK b (Spend.coin t) (Spend.level t) (Spend.index t) (Spend.cxt t)), Zi (chalE b (Spend.coin t) (Spend.level t) (Spend.index t) (Spend.cxt t))]) (.br (chalE b (Spend.coin s) s.11 s.12 (Spend.cxt s) != 0) (.out (AV.tup [Zi 0, Zi (chalE b (Spend.coin s) s.11 s.12 (Spend.cxt s))]) [] y2 []) (.br (chalE b (Spend.coin t) t.11 t.12 (Spend.cxt t) != 0) (.out (AV.tup [Zi 0, Zi (chalE b (Spend.coin t) t.11 t.12 (Spend.cxt t))]) [] y2 []) (.br (chalK b (Spend.coin s) s.11 s.12 (Spend.cxt s) == chalK b (Spend.coin t) t.11 t.12 (Spend.cxt t)) (.out (AV.tup [Zi 0, Zi 20]) [] y2 []) (.br (s.17 y0 2 == t.17 y1 2) (.out (AV.tup [Zi 0, Zi 10]) [] y2 []) (.req ((Bas.gr b).2 ≠ (0 : Int)) (.sc (true) 112 ([Zi (Int.tmod (IntKind.wrap IntKind.i64 (IntKind.wrap IntKind.i64 (s.17 y0 2 - t.17 y1 2) + (Bas.gr b).2)) (Bas.gr b).2), Zi (Bas.gr b).2]) (AV.tup [Zi (invF (Int.tmod (IntKind.wrap IntKind.i64 (IntKind.wrap IntKind.i64 (s.17 y0 2 - t.17 y1 2) + (Bas.gr b).2)) (Bas.gr b).2) (Bas.gr b).2), Zi (if Int.gcd (Int.tmod (IntKind.wrap IntKind.i64 (IntKind.wrap IntKind.i64 (s.17 y0 2 - t.17 y1 2) + (Bas.gr b).2)) (Bas.gr b).2) (Bas.gr b).2 = 1 then (0 : Int) else (10 : Int))]) (.req ((Bas.gr b).2 ≠ (0 : Int)) (.sc (true) 113 ([Zi (Int.tmod (IntKind.wrap IntKind.i64 (IntKind.wrap IntKind.i64 (s.17 y0 1 - t.17 y1 1) + (Bas.gr b).2)) (Bas.gr b).2), Zi (invF (Int.tmod (IntKind.wrap IntKind.i64 (IntKind.wrap IntKind.i64 (s.17 y0 2 - t.17 y1 2) + (Bas.gr b).2)) (Bas.gr b).2) (Bas.gr b).2), Zi (Bas.gr b).2]) (AV.tup [Zi (okv (chkI (Int.tmod (IntKind.wrap IntKind.i64 (IntKind.wrap IntKind.i64 (s.17 y0 1 - t.17 y1 1) + (Bas.gr b).2)) (Bas.gr b).2) (invF (Int.tmod (IntKind.wrap IntKind.i64 (IntKind.wrap IntKind.i64 (s.17 y0 2 - t.17 y1 2) + (Bas.gr b).2)) (Bas.gr b).2) (Bas.gr b).2) (Bas.gr b).2) (Int.tmod (IntKind.wrap IntKind.i64 (IntKind.wrap IntKind.i64 (s.17 y0 1 - t.17 y1 1) + (Bas.gr b).2)) (Bas.gr b).2 * invF (Int.tmod (IntKind.wrap IntKind.i64 (IntKind.wrap IntKind.i64 (s.17 y0 2 - t.17 y1 2) + (Bas.gr b).2)) (Bas.gr b).2) (Bas.gr b).2 % (Bas.gr b).2)), Zi (chkI (Int.tmod (IntKind.wrap IntKind.i64 (IntKind.wrap IntKind.i64 (s.17 y0 1 - t.17 y1 1) + (Bas.gr b).2)) (Bas.gr b).2) (invF (Int.tmod (IntKind.wrap IntKind.i64 (IntKind.wrap IntKind.i64 (s.17 y0 2 - t.17 y1 2) + (Bas.gr b).2)) (Bas.gr b).2) (Bas.gr b).2) (Bas.gr b).2)]) (.out (AV.tup [Zi (okv (chkI (Int.tmod (IntKind.wrap IntKind.i64 (IntKind.wrap IntKind.i64 (s.17 y0 1 - t.17 y1 1) + (Bas.gr b).2)) (Bas.gr b).2) (invF (Int.tmod (IntKind.wrap IntKind.i64 (IntKind.wrap IntKind.i64 (s.17 y0 2 - t.17 y1 2) + (Bas.gr b).2)) (Bas.gr b).2) (Bas.gr b).2) (Bas.gr b).2) (Int.tmod (IntKind.wrap IntKind.i64 (IntKind.wrap IntKind.i64 (s.17 y0 1 - t.17 y1 1) + (Bas.gr b).2)) (Bas.gr b).2 * invF (Int.tmod (IntKind.wrap IntKind.i64 (IntKind.wrap IntKind.i64 (s.17 y0 2 - t.17 y1 2) + (Bas.gr b).2)) (Bas.gr b).2) (Bas.gr b).2 % (Bas.gr b).2)), Zi 0]) [] y2 []))))))))))))))))))))))))))))
    (by kernel_rfl) ?_
  refine k_sc (c1) ?_
  refine k_scg (fun h1 => c2) ?_
  refine k_br (fun h2 => ?_) (fun h2 => ?_)
  · have g2 := (cnd_or_t (cnd_not_t cnd_id_f) (cnd_not_t (cnd_and_f cnd_id_f cnd_id_f))) h2
    exact k_out (Ent.of_eq (by rw [sec_1 g2]))
  · have g2 := (cnd_or_f (cnd_not_f cnd_id_t) (cnd_not_f (cnd_and_t cnd_id_t cnd_id_t))) h2
    refine k_sc (c5) ?_
    refine k_br (fun h5 => ?_) (fun h5 => ?_)
    · have g5 := (cnd_or_t cnd_dec_t cnd_dec_t) h5
      exact k_out (Ent.of_eq (by rw [sec_2 g2 g5]))
    · have g5 := (cnd_or_f cnd_dec_f cnd_dec_f) h5
      refine k_dc (c6) ?_
      refine k_sc (c7 (leaf) (by omega)) ?_
      refine k_br (fun h9 => ?_) (fun h9 => ?_)
      · have g9 := (cnd_not_t cnd_dec_f) h9
        exact k_out (Ent.of_eq (by rw [sec_3 g2 (by omega) g9]))
      · have g9 := (cnd_not_f cnd_dec_t) h9
        refine k_req (⟨(L g2.2.1 (by omega)).1, (L g2.2.1 (by omega)).2.1⟩) ?_
        refine k_sc (c8 (s.17 (Int.toNat (IntKind.wrap IntKind.i64 (leaf - fromS s))) (0)) (by omega)) ?_
        refine k_req (by have m := mate_lt ((shared_has g2.2.1 (by omega)).1 g9).2; rw [(L g2.2.1 (by omega)).2.2, m.2]; omega) ?_
        refine k_sc (c9 (s.17 (Int.toNat (IntKind.wrap IntKind.i64 (leaf - fromS s))) (1))) ?_
        refine k_scg (fun h15 => c9 (s.17 (Int.toNat (IntKind.wrap IntKind.i64 (leaf - fromS s))) (2))) ?_
        refine k_scg (fun h16 => c9 (t.17 (Int.toNat (firstI (fun (i : Nat) => t.17 i (0) == s.17 (Int.toNat (IntKind.wrap IntKind.i64 (leaf - fromS s))) (0)) t.16 (0))) (1))) ?_
        refine k_scg (fun h17 => c9 (t.17 (Int.toNat (firstI (fun (i : Nat) => t.17 i (0) == s.17 (Int.toNat (IntKind.wrap IntKind.i64 (leaf - fromS s))) (0)) t.16 (0))) (2))) ?_
        refine k_br (fun h18 => ?_) (fun h18 => ?_)
        · have g18 := (cnd_or_t (cnd_or_t (cnd_or_t (cnd_not_t cnd_id_f) (cnd_not_t cnd_id_f)) (cnd_not_t cnd_id_f)) (cnd_not_t cnd_id_f)) h18
          exact k_out (by rw [(L g2.2.1 (by omega)).2.2] at g18; exact Ent.of_eq (by rw [sec_4 g2 (by omega) g9 (or4 g18)]))
        · have g18 := (cnd_or_f (cnd_or_f (cnd_or_f (cnd_not_f cnd_id_t) (cnd_not_f cnd_id_t)) (cnd_not_f cnd_id_t)) (cnd_not_f cnd_id_t)) h18
          refine k_sc (c3) ?_
          refine k_sc (c4) ?_
          refine k_br (fun h22 => ?_) (fun h22 => ?_)
          · have g22 := cnd_bne_t h22
            exact k_out ((by exfalso; exact g22 (k1 g2.1 g2.2.1).1))
          · have g22 := cnd_bne_f h22
            refine k_br (fun h24 => ?_) (fun h24 => ?_)
            · have g24 := cnd_bne_t h24
              exact k_out ((by exfalso; exact g24 (k2 g2.1 g2.2.2).1))
            · have g24 := cnd_bne_f h24
              refine k_br (fun h26 => ?_) (fun h26 => ?_)
              · have g26 := cnd_beq_t h26
                exact k_out (by rw [(L g2.2.1 (by omega)).2.2] at g18; rw [(k1 g2.1 g2.2.1).2, (k2 g2.1 g2.2.2).2] at g26; exact Ent.of_eq (by rw [sec_5 g2 (by omega) g9 (and4 g18) g26]))
              · have g26 := cnd_beq_f h26
                refine k_br (fun h28 => ?_) (fun h28 => ?_)
                · have g28 := cnd_beq_t h28
                  exact k_out (by rw [(L g2.2.1 (by omega)).2.2] at g18 g28; rw [(k1 g2.1 g2.2.1).2, (k2 g2.1 g2.2.2).2] at g26; exact Ent.of_eq (by rw [sec_6 g2 (by omega) g9 (and4 g18) g26 g28]))
                · have g28 := cnd_beq_f h28
                  refine k_req (by have := hq g2.1; omega) ?_
                  refine k_sc (winv_c (Int.tmod (IntKind.wrap IntKind.i64 (IntKind.wrap IntKind.i64 (s.17 (Int.toNat (IntKind.wrap IntKind.i64 (leaf - fromS s))) (2) - t.17 (Int.toNat (firstI (fun (i : Nat) => t.17 i (0) == s.17 (Int.toNat (IntKind.wrap IntKind.i64 (leaf - fromS s))) (0)) t.16 (0))) (2)) + (Bas.gr b).2)) (Bas.gr b).2) ((Bas.gr b).2) (by have u := sub_q (scB_t g18.1.1.2) (scB_t g18.2) (hq g2.1).2; rw [u.1]; exact u.2.1) (by have u := sub_q (scB_t g18.1.1.2) (scB_t g18.2) (hq g2.1).2; rw [u.1]; exact u.2.2) ((hq g2.1).2)) ?_
                  refine k_req (by have := hq g2.1; omega) ?_
                  refine k_sc (wmul_c (Int.tmod (IntKind.wrap IntKind.i64 (IntKind.wrap IntKind.i64 (s.17 (Int.toNat (IntKind.wrap IntKind.i64 (leaf - fromS s))) (1) - t.17 (Int.toNat (firstI (fun (i : Nat) => t.17 i (0) == s.17 (Int.toNat (IntKind.wrap IntKind.i64 (leaf - fromS s))) (0)) t.16 (0))) (1)) + (Bas.gr b).2)) (Bas.gr b).2) (invF (Int.tmod (IntKind.wrap IntKind.i64 (IntKind.wrap IntKind.i64 (s.17 (Int.toNat (IntKind.wrap IntKind.i64 (leaf - fromS s))) (2) - t.17 (Int.toNat (firstI (fun (i : Nat) => t.17 i (0) == s.17 (Int.toNat (IntKind.wrap IntKind.i64 (leaf - fromS s))) (0)) t.16 (0))) (2)) + (Bas.gr b).2)) (Bas.gr b).2) (Bas.gr b).2) ((Bas.gr b).2)) ?_
                  exact k_out (by have u := sub_q (scB_t g18.1.1.2) (scB_t g18.2) (hq g2.1).2; have v := sub_q (scB_t g18.1.1.1) (scB_t g18.1.2) (hq g2.1).2; rw [u.1, v.1, chk_ok (hq g2.1).1 (hq g2.1).2 v.2.1 v.2.2 (invF_bound (hq g2.1).1).1 (invF_bound (hq g2.1).1).2]; rw [(L g2.2.1 (by omega)).2.2] at g18 g28 ⊢; rw [(k1 g2.1 g2.2.1).2, (k2 g2.1 g2.2.2).2] at g26; exact Ent.of_eq (by rw [sec_7 g2 (by omega) g9 (and4 g18) g26 g28]; rfl))

end Go.Proofs.YtdaaddkipdmajaaGreatDoor

namespace Go.Proofs.YtdaaddkipdmajaaGreatDoor
open Go Go.Am Go.Sp
set_option maxRecDepth 100000

end Go.Proofs.YtdaaddkipdmajaaGreatDoor

namespace Go.Proofs.YtdaaddkipdmajaaGreatDoor
open Go Go.Am Go.Sp
set_option maxRecDepth 100000

end Go.Proofs.YtdaaddkipdmajaaGreatDoor

namespace Go.Proofs.YtdaaddkipdmajaaGreatDoor
open Go Go.Am Go.Sp
set_option maxRecDepth 100000

theorem cloneL_n : Gives Tryz.prog gl0 188 [] [.nsl] .nsl [] := by
  refine gives_sk (own := ow0) (hand := true) Tryz.func188 (by kernel_rfl) mixed (by kernel_rfl)
    (.tt (.out (AV.nsl) [] (AV.nsl) []))
    (by kernel_rfl) ?_
  refine k_tt ?_
  exact k_out (Ent.refl _)

theorem cloneL_s (f : Nat → Nat → Int) (n : Nat) (hn : n ≤ 1000) : Gives Tryz.prog gl0 188 [] [.nn (lvs n f)] (.osl 0 3 0 n) [some ⟨3, n, true, .fn fun i j => .int .i64 (f i j)⟩] := by
  refine gives_sk (own := ow0) (hand := true) Tryz.func188 (by kernel_rfl) mixed (by kernel_rfl)
    (.ff (.req ((0 + n) * 24 ≤ 140737488355328) (.out (AV.osl 0 3 0 (0 + n)) ([some ⟨3, 0 + n, true, Rep.fn fun (i j : Nat) => Zi (f i j)⟩]) (AV.osl 0 3 0 n) ([some ⟨3, n, true, Rep.fn fun (i j : Nat) => Zi (f i j)⟩]))))
    (by kernel_rfl) ?_
  refine k_ff ?_
  refine k_req (by omega) ?_
  exact k_outg (Ent.of_eq (by simp)) (⟨⟨rfl, by simp, rfl, fun i j _ _ => Ent.of_eq (by simp)⟩, trivial⟩)

theorem cloneH_n : Gives Tryz.prog gl0 189 [] [.nsl] .nsl [] := by
  refine gives_sk (own := ow0) (hand := true) Tryz.func189 (by kernel_rfl) mixed (by kernel_rfl)
    (.tt (.out (AV.nsl) [] (AV.nsl) []))
    (by kernel_rfl) ?_
  refine k_tt ?_
  exact k_out (Ent.refl _)

theorem cloneH_s (f : Nat → Nat → Int) (n : Nat) (hn : n ≤ 1000) : Gives Tryz.prog gl0 189 [] [.nn (hss n f)] (.osl 0 32 0 n) [some ⟨32, n, true, .fn fun i j => .int .u8 (f i j)⟩] := by
  refine gives_sk (own := ow0) (hand := true) Tryz.func189 (by kernel_rfl) mixed (by kernel_rfl)
    (.ff (.req ((0 + n) * 32 ≤ 140737488355328) (.out (AV.osl 0 32 0 (0 + n)) ([some ⟨32, 0 + n, true, Rep.fn fun (i j : Nat) => Zb (f i j)⟩]) (AV.osl 0 32 0 n) ([some ⟨32, n, true, Rep.fn fun (i j : Nat) => Zb (f i j)⟩]))))
    (by kernel_rfl) ?_
  refine k_ff ?_
  refine k_req (by omega) ?_
  exact k_outg (Ent.of_eq (by simp)) (⟨⟨rfl, by simp, rfl, fun i j _ _ => Ent.of_eq (by simp)⟩, trivial⟩)

theorem cloneL_c (f : Nat → Nat → Int) (n : Nat) (hn : n ≤ 1000) : Gives Tryz.prog gl0 188 [] [lvs n f] (.osl 0 3 0 n) [some ⟨3, n, true, .fn fun i j => .int .i64 (f i j)⟩] :=
  Gives.nilSplit [] [] 3 n _ (fun h => by subst h; exact cloneL_n.nil 3 _) (cloneL_s f n hn)

theorem cloneH_c (f : Nat → Nat → Int) (n : Nat) (hn : n ≤ 1000) : Gives Tryz.prog gl0 189 [] [hss n f] (.osl 0 32 0 n) [some ⟨32, n, true, .fn fun i j => .int .u8 (f i j)⟩] :=
  Gives.nilSplit [] [] 32 n _ (fun h => by subst h; exact cloneH_n.nil 32 _) (cloneH_s f n hn)

def owR : FuncId → Option (List Bool) := fun f => bif Nat.beq f 188 || Nat.beq f 189 || Nat.beq f 118 then some [false] else none

theorem copied_c (s : Spend) (hl : s.nl ≤ 1000) (hp : s.np ≤ 1000) : Gives Tryz.prog gl0 118 [] [s.av] (.agg (s.cw (.osl 0 3 0 s.nl) (.osl 1 32 0 s.np))) [some ⟨3, s.nl, true, .fn fun i j => .int .i64 (s.lf i j)⟩, some ⟨32, s.np, true, .fn fun i j => .int .u8 (s.pf i j)⟩] := by
  refine gives_sk (own := owR) (hand := true) Tryz.func118 (by kernel_rfl) mixed (by kernel_rfl)
    (.gc 188 ([]) ([AV.isl 3 s.16 fun (i j : Nat) => Zi (s.17 i j)]) (AV.osl 0 3 0 s.16) ([some ⟨3, s.16, true, Rep.fn fun (i j : Nat) => Zi (s.17 i j)⟩]) (.gc 189 ([]) ([AV.isl 32 s.19 fun (i j : Nat) => Zb (s.20 i j)]) (AV.osl 0 32 0 s.19) ([some ⟨32, s.19, true, Rep.fn fun (i j : Nat) => Zb (s.20 i j)⟩]) (.out (AV.agg (Zi s.1 :: Zi s.2 :: Zi s.3 :: Zi s.4 :: Zi s.5 :: (u8c s.6 ++ Zi s.7 :: Zi s.8 :: Zi s.9 :: Zi s.10 :: Zi s.11 :: Zi s.12 :: (u8c s.13 ++ [Zi s.14, Zi s.15, AV.osl 0 3 0 s.16, Zi s.18, AV.osl 1 32 0 s.19])))) ([some ⟨3, s.16, true, Rep.fn fun (i j : Nat) => Zi (s.17 i j)⟩, some ⟨32, s.19, true, Rep.fn fun (i j : Nat) => Zb (s.20 i j)⟩]) (AV.agg (Spend.cw s (AV.osl 0 3 0 (Spend.nl s)) (AV.osl 1 32 0 (Spend.np s)))) ([some ⟨3, Spend.nl s, true, Rep.fn fun (i j : Nat) => Zi (Spend.lf s i j)⟩, some ⟨32, Spend.np s, true, Rep.fn fun (i j : Nat) => Zb (Spend.pf s i j)⟩]))))
    (by kernel_rfl) ?_
  refine k_gc (cloneL_c (s.17) (s.16) (by assumption)) ?_
  refine k_gc (cloneH_c (s.20) (s.19) (by assumption)) ?_
  exact k_outg (Ent.refl _) (ObsEnt.refl _)

theorem few_c (s : Spend) : Pure Tryz.prog gl0 45 [s.av] (.bool (decide ((s.nl : Int) ≤ 40) && decide ((s.np : Int) ≤ 20))) := by
  refine pure_sk (own := ow0) Tryz.func45 (by kernel_rfl) mixed (by kernel_rfl)
    (.out (AV.bool (decide ((↑s.16 : Int) ≤ 40) && decide ((↑s.19 : Int) ≤ 20))) [] (AV.bool (decide ((↑(Spend.nl s) : Int) ≤ 40) && decide ((↑(Spend.np s) : Int) ≤ 20))) [])
    (by kernel_rfl) ?_
  exact k_out (Ent.of_eq rfl)

theorem kinds_c : Pure Tryz.prog gl0 90 [] (.int .i64 12) := by
  refine pure_sk (own := ow0) Tryz.func90 (by kernel_rfl) mixed (by kernel_rfl)
    (.out (Zi 12) [] (Zi 12) [])
    (by kernel_rfl) ?_
  exact k_out (Ent.of_eq rfl)

theorem rgscalar_c (b : Bas) (x : Int) : Pure Tryz.prog gl0 117 [b.av, .int .i64 x] (.bool (scB b x)) := by
  refine pure_sk (own := ow0) Tryz.func117 (by kernel_rfl) mixed (by kernel_rfl)
    (.out (AV.bool (decide (x ≥ 0) && decide (x < (Bas.gr b).2))) [] (AV.bool (scB b x)) [])
    (by kernel_rfl) ?_
  exact k_out (Ent.refl _)

end Go.Proofs.YtdaaddkipdmajaaGreatDoor

namespace Go.Proofs.YtdaaddkipdmajaaGreatDoor
open Go Go.Am Go.Sp
set_option maxRecDepth 100000

theorem alter_4 (s : Spend) (hl : s.nl ≤ 1000) (hp : s.np ≤ 1000) (ok : okS s = true) : Pure Tryz.prog gl0 89 [s.av, .int .i64 4, .int .i64 1] (.tup [({ s with index := IntKind.wrap .i64 (BitVec.toNat (BitVec.ofInt 64 s.index ^^^ BitVec.ofInt 64 1)) } : Spend).av, .int .i64 0]) := by
  have c1 := rogueformed_c s hl
  have c2 := copied_c s hl hp
  rw [ok] at c1
  refine pure_sk (own := owR) Tryz.func89 (by kernel_rfl) mixed (by kernel_rfl)
    (.sc (true) 114 ([AV.agg (Spend.cells s)]) (AV.bool true) (.ff (.ff (.ff (.gc 118 ([]) ([AV.agg (Spend.cells s)]) (AV.agg (Spend.cw s (AV.osl 0 3 0 (Spend.nl s)) (AV.osl 1 32 0 (Spend.np s)))) ([some ⟨3, Spend.nl s, true, Rep.fn fun (i j : Nat) => Zi (Spend.lf s i j)⟩, some ⟨32, Spend.np s, true, Rep.fn fun (i j : Nat) => Zb (Spend.pf s i j)⟩]) (.ff (.ff (.ff (.ff (.tt (.out (AV.tup [AV.agg (Zi s.1 :: Zi s.2 :: Zi s.3 :: Zi s.4 :: Zi s.5 :: (u8c s.6 ++ Zi s.7 :: Zi s.8 :: Zi s.9 :: Zi s.10 :: Zi s.11 :: Zi (IntKind.wrap IntKind.i64 (↑(BitVec.toNat (BitVec.ofInt 64 s.12 ^^^ BitVec.ofInt 64 (1 : Int))) : Int)) :: (u8c s.13 ++ [Zi s.14, Zi s.15, AV.isl 3 s.16 fun (r k : Nat) => Zi (s.17 (r + 0) k), Zi s.18, AV.isl 32 s.19 fun (r k : Nat) => Zb (s.20 (r + 0) k)]))), Zi 0]) [] (AV.tup [Spend.av { bank := Spend.bank s, epoch := Spend.epoch s, denom := Spend.denom s, depth := Spend.depth s, a := Spend.a s, root := Spend.root s, z := Spend.z s, sa := Spend.sa s, sb := Spend.sb s, r := Spend.r s, level := Spend.level s, index := IntKind.wrap IntKind.i64 (↑(BitVec.toNat (BitVec.ofInt 64 (Spend.index s) ^^^ BitVec.ofInt 64 (1 : Int))) : Int), payee := Spend.payee s, time := Spend.time s, number := Spend.number s, nl := Spend.nl s, lf := Spend.lf s, pidx := Spend.pidx s, np := Spend.np s, pf := Spend.pf s }, Zi 0]) [])))))))))))
    (by kernel_rfl) ?_
  refine k_sc (c1) ?_
  refine k_ff ?_
  refine k_ff ?_
  refine k_ff ?_
  refine k_gc (c2) ?_
  refine k_ff ?_
  refine k_ff ?_
  refine k_ff ?_
  refine k_ff ?_
  refine k_tt ?_
  exact k_out (Ent.of_eq rfl)

theorem alter_10 (s : Spend) (hl : s.nl ≤ 1000) (hp : s.np ≤ 1000) (h1 : s.nl = 1) (ok : okS s = true) : Pure Tryz.prog gl0 89 [s.av, .int .i64 10, .int .i64 1] (.tup [Spend.zero.av, .int .i64 7]) := by
  have c1 := rogueformed_c s hl
  have c2 := copied_c s hl hp
  rw [ok] at c1
  refine pure_sk (own := owR) Tryz.func89 (by kernel_rfl) mixed (by kernel_rfl)
    (let y0 : Nat := (Int.toNat (IntKind.wrap IntKind.i64 ((↑s.16 : Int) - 1)) + 0); let y1 : AV := (AV.tup [Spend.av Spend.zero, Zi 7]); (.sc (true) 114 ([AV.agg (Spend.cells s)]) (AV.bool true) (.ff (.ff (.br ((↑s.16 : Int) == 1 || false) (.out (AV.tup [AV.agg [Zi 0, Zi 0, Zi 0, Zi 0, Zi 0, Zb 0, Zb 0, Zb 0, Zb 0, Zb 0, Zb 0, Zb 0, Zb 0, Zb 0, Zb 0, Zb 0, Zb 0, Zb 0, Zb 0, Zb 0, Zb 0, Zb 0, Zb 0, Zb 0, Zb 0, Zb 0, Zb 0, Zb 0, Zb 0, Zb 0, Zb 0, Zb 0, Zb 0, Zb 0, Zb 0, Zb 0, Zb 0, Zi 0, Zi 0, Zi 0, Zi 0, Zi 0, Zi 0, Zb 0, Zb 0, Zb 0, Zb 0, Zb 0, Zb 0, Zb 0, Zb 0, Zb 0, Zb 0, Zb 0, Zb 0, Zb 0, Zb 0, Zb 0, Zb 0, Zb 0, Zb 0, Zb 0, Zb 0, Zb 0, Zb 0, Zb 0, Zb 0, Zb 0, Zb 0, Zb 0, Zb 0, Zb 0, Zb 0, Zb 0, Zb 0, Zi 0, Zi 0, AV.nsl, Zi 0, AV.nsl], Zi 7]) [] y1 []) (.gc 118 ([]) ([AV.agg (Spend.cells s)]) (AV.agg (Spend.cw s (AV.osl 0 3 0 (Spend.nl s)) (AV.osl 1 32 0 (Spend.np s)))) ([some ⟨3, Spend.nl s, true, Rep.fn fun (i j : Nat) => Zi (Spend.lf s i j)⟩, some ⟨32, Spend.np s, true, Rep.fn fun (i j : Nat) => Zb (Spend.pf s i j)⟩]) (.ff (.ff (.ff (.ff (.ff (.ff (.ff (.ff (.ff (.ff (.tt (.req ((0 : Int) ≤ IntKind.wrap IntKind.i64 ((↑s.16 : Int) - 1) ∧ IntKind.wrap IntKind.i64 ((↑s.16 : Int) - 1) < (↑s.16 : Int)) (.req ((0 : Int) ≤ 0 ∧ (0 : Int) < (↑s.16 : Int)) (.req ((0 : Int) ≤ 0 ∧ (0 : Int) < (↑s.16 : Int)) (.req ((0 : Int) ≤ IntKind.wrap IntKind.i64 ((↑s.16 : Int) - 1) ∧ IntKind.wrap IntKind.i64 ((↑s.16 : Int) - 1) < (↑s.16 : Int)) (.out (AV.tup [AV.agg (Zi s.1 :: Zi s.2 :: Zi s.3 :: Zi s.4 :: Zi s.5 :: (u8c s.6 ++ Zi s.7 :: Zi s.8 :: Zi s.9 :: Zi s.10 :: Zi s.11 :: Zi s.12 :: (u8c s.13 ++ [Zi s.14, Zi s.15, AV.isl 3 s.16 fun (r k : Nat) => Zi (bif Nat.beq (r + 0) y0 && (Nat.ble 0 k && Nat.blt k 3) then intOfAV (atL [Zi (s.17 0 0), Zi (s.17 0 1), Zi (s.17 0 2)] (k - 0)) else bif Nat.beq (r + 0) 0 && (Nat.ble 0 k && Nat.blt k 3) then intOfAV (atL [Zi (s.17 y0 0), Zi (s.17 y0 1), Zi (s.17 y0 2)] (k - 0)) else s.17 (r + 0) k), Zi s.18, AV.isl 32 s.19 fun (r k : Nat) => Zb (s.20 (r + 0) k)]))), Zi 0]) [] y1 []))))))))))))))))))))))
    (by kernel_rfl) ?_
  refine k_sc (c1) ?_
  refine k_ff ?_
  refine k_ff ?_
  refine k_br (fun h3 => ?_) (fun h3 => ?_)
  · have g3 := (cnd_or_t cnd_beq_t cnd_id_t) h3
    exact k_out (Ent.tup ⟨Ent.agg zero_ent, Ent.refl _, trivial⟩)
  · have g3 := (cnd_or_f cnd_beq_f cnd_id_f) h3
    refine k_gc (c2) ?_
    refine k_ff ?_
    refine k_ff ?_
    refine k_ff ?_
    refine k_ff ?_
    refine k_ff ?_
    refine k_ff ?_
    refine k_ff ?_
    refine k_ff ?_
    refine k_ff ?_
    refine k_ff ?_
    refine k_tt ?_
    refine k_req (by omega) ?_
    refine k_req (by omega) ?_
    refine k_req (by omega) ?_
    refine k_req (by omega) ?_
    exact k_out ((by exfalso; omega))

theorem leaf4_ok : okS .leaf4 = true := by decide +kernel

theorem alter4_c : Pure Tryz.prog gl0 89 [.agg (Spend.zero.cw (.isl 3 1 fun r k => atL (List.getD [[.int .i64 4, .int .i64 0, .int .i64 0]] r []) k) .nsl), .int .i64 4, .int .i64 1] (.tup [({ Spend.leaf4 with index := 1 } : Spend).av, .int .i64 0]) :=
  Pure.via (alter_4 .leaf4 (by decide) (by decide) leaf4_ok) ⟨Ent.agg leaf4_ent, Ent.refl _, Ent.refl _, trivial⟩

theorem alter10_c : Pure Tryz.prog gl0 89 [.agg (Spend.zero.cw (.isl 3 1 fun r k => atL (List.getD [[.int .i64 4, .int .i64 0, .int .i64 0]] r []) k) .nsl), .int .i64 10, .int .i64 1] (.tup [Spend.zero.av, .int .i64 7]) :=
  Pure.via (alter_10 .leaf4 (by decide) (by decide) rfl leaf4_ok) ⟨Ent.agg leaf4_ent, Ent.refl _, Ent.refl _, trivial⟩

theorem awake53_c : Pure Tryz.prog gl0 27 [] (.bool true) := by
  refine pure_sk (own := ow0) Tryz.func27 (by kernel_rfl) mixed (by kernel_rfl)
    (let y0 : List AV := [Zi 0, Zi 0, Zi 0, Zi 0, Zi 0, Zb 0, Zb 0, Zb 0, Zb 0, Zb 0, Zb 0, Zb 0, Zb 0, Zb 0, Zb 0, Zb 0, Zb 0, Zb 0, Zb 0, Zb 0, Zb 0, Zb 0, Zb 0, Zb 0, Zb 0, Zb 0, Zb 0, Zb 0, Zb 0, Zb 0, Zb 0, Zb 0, Zb 0, Zb 0, Zb 0, Zb 0, Zb 0, Zi 0, Zi 0, Zi 0, Zi 0, Zi 0, Zi 0, Zb 0, Zb 0, Zb 0, Zb 0, Zb 0, Zb 0, Zb 0, Zb 0, Zb 0, Zb 0, Zb 0, Zb 0, Zb 0, Zb 0, Zb 0, Zb 0, Zb 0, Zb 0, Zb 0, Zb 0, Zb 0, Zb 0, Zb 0, Zb 0, Zb 0, Zb 0, Zb 0, Zb 0, Zb 0, Zb 0, Zb 0, Zb 0, Zi 0, Zi 0, AV.isl 3 1 fun (r k : Nat) => atL (List.getD [[Zi 4, Zi 0, Zi 0]] (r + 0) []) k, Zi 0, AV.nsl]; (.dc (true) 89 ([AV.agg y0, Zi 4, Zi 1]) (AV.tup   [Spend.av       (have __src := Spend.leaf4;       { bank := Spend.bank __src, epoch := Spend.epoch __src, denom := Spend.denom __src, depth := Spend.depth __src, a := Spend.a __src, root := Spend.root __src, z := Spend.z __src, sa := Spend.sa __src, sb := Spend.sb __src, r := Spend.r __src, level := Spend.level __src, index := (1 : Int), payee := Spend.payee __src, time := Spend.time __src, number := Spend.number __src, nl := Spend.nl __src, lf := Spend.lf __src, pidx := Spend.pidx __src, np := Spend.np __src, pf := Spend.pf __src }),     Zi 0]) (.dc (true) 89 ([AV.agg y0, Zi 10, Zi 1]) (AV.tup [Spend.av Spend.zero, Zi 7]) (.sc (true) 90 ([]) (Zi 12) (.out (AV.bool true) [] (AV.bool true) [])))))
    (by kernel_rfl) ?_
  refine k_dc (alter4_c) ?_
  refine k_dc (alter10_c) ?_
  refine k_sc (kinds_c) ?_
  exact k_out (Ent.of_eq rfl)

theorem odd_c (b : Bas) (l0 l1 l2 : Int) : Pure Tryz.prog gl0 116 [.agg [.int .i64 l0, .int .i64 l1, .int .i64 l2], .ipt 6 (atL b.cells)] (.bool (!(scB b l1 && scB b l2))) := by
  have c1 := rgscalar_c b
  refine pure_sk (own := ow0) Tryz.func116 (by kernel_rfl) mixed (by kernel_rfl)
    (.sc (true) 117 ([AV.agg (Bas.cells b), Zi l1]) (AV.bool (scB b l1)) (.sc ((!scB b l1) == false) 117 ([AV.agg (Bas.cells b), Zi l2]) (AV.bool (scB b l2)) (.out (AV.bool (!scB b l1 || !scB b l2)) [] (AV.bool !(scB b l1 && scB b l2)) [])))
    (by kernel_rfl) ?_
  refine k_sc (c1 (l1)) ?_
  refine k_scg (fun h1 => c1 (l2)) ?_
  exact k_out (Ent.of_eq (by simp_all))

theorem indexO_c (b : Bas) (f : Nat → Nat → Int) (n : Nat) (hn : n < 9223372036854775808) : Pure Tryz.prog gl0 183 [lvs n f, .fn (.func 116) [] [.ipt 6 (atL b.cells)]] (.int .i64 (firstI (fun i => !(scB b (f i 1) && scB b (f i 2))) n 0)) := by
  have c1 := odd_c b
  refine pure_sk (own := ow0) Tryz.func183 (by kernel_rfl) mixed (by kernel_rfl)
    (let y0 : List AV := [AV.ipt 6 (atL (Bas.cells b))]; let y1 : AV := (Zi (firstI (fun (i : Nat) => !(scB b (f i 1) && scB b (f i 2))) n 0)); (.loop ({ x : Nat // x ≤ n ∧ (fun (i : Nat) => firstI (fun (i : Nat) => !(scB b (f i 1) && scB b (f i 2))) n 0 = firstI (fun (i : Nat) => !(scB b (f i 1) && scB b (f i 2))) (n - i) i) x }) (fun (x : { x : Nat // x ≤ n ∧ (fun (i : Nat) => firstI (fun (i : Nat) => !(scB b (f i 1) && scB b (f i 2))) n 0 = firstI (fun (i : Nat) => !(scB b (f i 1) && scB b (f i 2))) (n - i) i) x }) => mkSt [0, 1, 7, 8] [AV.isl 3 n fun (i j : Nat) => Zi (f i j), AV.fn (Fn.func (116 : FuncId)) [] y0, Zi (↑n : Int), Zi (↑(x.1) : Int)] []) (fun (x : { x : Nat // x ≤ n ∧ (fun (i : Nat) => firstI (fun (i : Nat) => !(scB b (f i 1) && scB b (f i 2))) n 0 = firstI (fun (i : Nat) => !(scB b (f i 1) && scB b (f i 2))) (n - i) i) x }) => n - x.1) (⟨0, ⟨Nat.zero_le n, rfl⟩⟩) ([0, 1, 7, 8]) ([]) ([AV.isl 3 n fun (i j : Nat) => Zi (f i j), AV.fn (Fn.func (116 : FuncId)) [] y0, Zi (↑n : Int), Zi 0]) ([]) (fun x0 => (.br (decide ((↑x0.1 : Int) < (↑n : Int))) (.req ((0 : Int) ≤ (↑x0.1 : Int) ∧ (↑x0.1 : Int) < (↑n : Int)) (.sc (true) 116 ([AV.agg [Zi (f (Int.toNat (↑x0.1 : Int)) 0), Zi (f (Int.toNat (↑x0.1 : Int)) 1), Zi (f (Int.toNat (↑x0.1 : Int)) 2)], AV.ipt 6 (atL (Bas.cells b))]) (AV.bool !(scB b (f (Int.toNat (↑x0.1 : Int)) 1) && scB b (f (Int.toNat (↑x0.1 : Int)) 2))) (.br (!(scB b (f (Int.toNat (↑x0.1 : Int)) 1) && scB b (f (Int.toNat (↑x0.1 : Int)) 2))) (.out (Zi (↑x0.1 : Int)) [] y1 []) (.again (Again 0 (fun (x : { x : Nat // x ≤ n ∧ (fun (i : Nat) => firstI (fun (i : Nat) => !(scB b (f i 1) && scB b (f i 2))) n 0 = firstI (fun (i : Nat) => !(scB b (f i 1) && scB b (f i 2))) (n - i) i) x }) => mkSt [0, 1, 7, 8] [AV.isl 3 n fun (i j : Nat) => Zi (f i j), AV.fn (Fn.func (116 : FuncId)) [] y0, Zi (↑n : Int), Zi (↑(x.1) : Int)] []) (fun (x : { x : Nat // x ≤ n ∧ (fun (i : Nat) => firstI (fun (i : Nat) => !(scB b (f i 1) && scB b (f i 2))) n 0 = firstI (fun (i : Nat) => !(scB b (f i 1) && scB b (f i 2))) (n - i) i) x }) => n - x.1) x0) ([0, 1, 7, 8]) ([]) ([AV.isl 3 n fun (i j : Nat) => Zi (f i j), AV.fn (Fn.func (116 : FuncId)) [] y0, Zi (↑n : Int), Zi (IntKind.wrap IntKind.i64 ((↑x0.1 : Int) + 1))]) ([]))))) (.out (Zi (-1)) [] y1 [])))))
    (by kernel_rfl) ?_
  refine k_loop (fun _ hs => hs.le (⟨.refl _, .refl _, .refl _, .refl _, trivial⟩) (trivial)) (fun x0 => ?_)
  try (have q0 := x0.2; dsimp only at q0)
  refine k_br (fun h1 => ?_) (fun h1 => ?_)
  · have g1 := cnd_dec_t h1
    refine k_req (by omega) ?_
    refine k_sc (c1 (f (Int.toNat (↑x0.1 : Int)) (0)) (f (Int.toNat (↑x0.1 : Int)) (1)) (f (Int.toNat (↑x0.1 : Int)) (2))) ?_
    refine k_br (fun h4 => ?_) (fun h4 => ?_)
    · have g4 := (cnd_not_t (cnd_and_f cnd_id_f cnd_id_f)) h4
      try simp only [Int.toNat_natCast] at g4
      exact k_out (Ent.of_eq (congrArg _ (first_hit x0.2.2 (by omega) h4)))
    · have g4 := (cnd_not_f (cnd_and_t cnd_id_t cnd_id_t)) h4
      try simp only [Int.toNat_natCast] at g4
      exact k_again (⟨x0.1 + 1, by omega, first_next x0.2.2 (by omega) h4⟩) (fun _ hs => hs.le (⟨.refl _, .refl _, .refl _, inc_ent (by omega), trivial⟩) (trivial)) (by dsimp only; omega)
  · have g1 := cnd_dec_f h1
    exact k_out (Ent.of_eq (congrArg _ (first_miss x0.2.2 (by omega))))

theorem containsO_c (b : Bas) (f : Nat → Nat → Int) (n : Nat) (hn : n < 9223372036854775808) : Pure Tryz.prog gl0 115 [lvs n f, .fn (.func 116) [] [.ipt 6 (atL b.cells)]] (.bool (decide (firstI (fun i => !(scB b (f i 1) && scB b (f i 2))) n 0 ≥ 0))) := by
  have c1 := indexO_c b f n hn
  refine pure_sk (own := ow0) Tryz.func115 (by kernel_rfl) mixed (by kernel_rfl)
    (let y0 : AV := (AV.bool (decide (firstI (fun (i : Nat) => !(scB b (f i 1) && scB b (f i 2))) n 0 ≥ 0))); (.sc (true) 183 ([AV.isl 3 n fun (i j : Nat) => Zi (f i j), AV.fn (Fn.func (116 : FuncId)) [] [AV.ipt 6 (atL (Bas.cells b))]]) (Zi (firstI (fun (i : Nat) => !(scB b (f i 1) && scB b (f i 2))) n 0)) (.out y0 [] y0 [])))
    (by kernel_rfl) ?_
  refine k_sc (c1) ?_
  exact k_out (Ent.refl _)

end Go.Proofs.YtdaaddkipdmajaaGreatDoor

namespace Go.Sp
open Go Go.Am
theorem elem_iff {G : Grp} (h : G.Ok) {x : Int} : elemB G x = true ↔ 1 ≤ x ∧ x < G.p ∧ x ^ G.q.toNat % G.p = 1 := by
  rw [← mem_eq h]
  simp [and_assoc]
theorem pow_ne {a p : Int} {q : Nat} (hq : 0 < q) (h : a ^ q % p = 1) : a % p ≠ 0 := fun e => by
  have h2 : (a % p) ^ q % p = 1 := by rw [pow_mod]; exact h
  rw [e, Int.zero_pow (by omega)] at h2
  simp at h2
theorem elem_of {G : Grp} (h : G.Ok) {x : Int} (hx : x ^ G.q.toNat % G.p = 1) : elemB G (x % G.p) = true := by
  have h3 := h.p3; have h4 := h.q3
  have h1 := Int.emod_nonneg x (show G.p ≠ 0 by omega)
  have h2 := Int.emod_lt_of_pos x (show 0 < G.p by omega)
  have h5 := pow_ne (by omega) hx
  refine (elem_iff h).2 ⟨by omega, h2, ?_⟩
  rw [pow_mod]
  exact hx
theorem elem_pow {G : Grp} (h : G.Ok) {a : Int} (ha : elemB G a = true) (k : Nat) : elemB G (a ^ k % G.p) = true := by
  refine elem_of h ?_
  have h3 := h.p3
  rw [← Int.pow_mul, Nat.mul_comm, Int.pow_mul, ← pow_mod, ((elem_iff h).1 ha).2.2, Int.one_pow, Int.emod_eq_of_lt (by decide) (by omega)]
theorem elem_mul {G : Grp} (h : G.Ok) {a b : Int} (ha : elemB G a = true) (hb : elemB G b = true) : elemB G (a * b % G.p) = true := by
  refine elem_of h ?_
  have h3 := h.p3
  rw [Int.mul_pow, Int.mul_emod, ((elem_iff h).1 ha).2.2, ((elem_iff h).1 hb).2.2]
  exact Int.emod_eq_of_lt (by decide) (by omega)
theorem elem_bnd {G : Grp} (h : G.Ok) {a : Int} (ha : elemB G a = true) : 1 ≤ a ∧ a < G.p := ⟨((elem_iff h).1 ha).1, ((elem_iff h).1 ha).2.1⟩
def msgI (b : Bas) (u : Int) : Int := b.g1 ^ u.toNat % b.gr.p * b.g2 % b.gr.p
theorem red_q {q x : Int} (h : 0 ≤ x ∧ x < q) : x % q = x := Int.emod_eq_of_lt h.1 h.2
theorem chS_q {b : Bas} {s : Spend} (h : 0 < b.gr.q) : 0 ≤ chS b s ∧ chS b s < b.gr.q := num_by h 16
end Go.Sp

namespace Go.Sp
open Go Go.Am
def claimL (s : Spend) (u q : Int) (i j : Nat) : Int := bif Nat.beq j 1 then (s.lf i 1 + u) % q else bif Nat.beq j 2 then (s.lf i 2 + 1) % q else s.lf i j
def claimT (s : Spend) (u q : Int) : Spend := { s with number := s.number + 1, lf := claimL s u q }
def clF (s : Spend) (u q : Int) (k i j : Nat) : Int := bif Nat.blt i k then claimL s u q i j else s.lf i j
def oddB (b : Bas) (s : Spend) (i : Nat) : Bool := !(scB b (s.lf i 1) && scB b (s.lf i 2))
def claimE (b : Bas) (s : Spend) (u : Int) : Int :=
  if validB b = false ∨ okS s = false then 1 else if decide (firstI (oddB b s) s.nl 0 ≥ 0) = true ∨ scB b u = false ∨ s.number ≥ 1073741824 then 2 else 0
def gul (s t : Spend) (leaf : Int) : AV := .agg (s.cells ++ (t.cells ++ [.int .i64 leaf]))
def claimG (b : Bas) (s : Spend) (u : Int) : AV := if claimE b s u = 0 then gul s (claimT s u b.gr.q) (fromS s) else gul .zero .zero 0
theorem entL_app {os : List (Option Ob)} : ∀ {a a' b b' : List AV}, EntL os a a' → EntL os b b' → EntL os (a ++ b) (a' ++ b')
  | [], [], _, _, _, h => h
  | _ :: _, _ :: _, _, _, h, h' => ⟨h.1, entL_app h.2 h'⟩
theorem claimE_1 {b : Bas} {s : Spend} {u : Int} (h : validB b = false ∨ okS s = false) : claimE b s u = 1 := if_pos h
theorem claimE_2 {b : Bas} {s : Spend} {u : Int} (h : validB b = true ∧ okS s = true) (h1 : (firstI (oddB b s) s.nl 0 ≥ 0 ∨ scB b u = false) ∨ s.number ≥ 1073741824) : claimE b s u = 2 := by
  unfold claimE
  rw [if_neg (by simp [h]), if_pos (by
    rcases h1 with (h1 | h1) | h1
    · exact Or.inl (decide_eq_true h1)
    · exact Or.inr (Or.inl h1)
    · exact Or.inr (Or.inr h1))]
theorem claimE_0 {b : Bas} {s : Spend} {u : Int} (h : validB b = true ∧ okS s = true) (h1 : (¬ firstI (oddB b s) s.nl 0 ≥ 0 ∧ scB b u = true) ∧ ¬ s.number ≥ 1073741824) : claimE b s u = 0 := by
  unfold claimE
  rw [if_neg (by simp [h]), if_neg (by simp only [decide_eq_true_eq]; simp [h1])]
theorem claim_err {os : List (Option Ob)} {b : Bas} {s : Spend} {u e : Int} (h : claimE b s u = e) (h0 : e ≠ 0) :
    Ent os (.tup [.agg (Spend.zero.cw .nsl .nsl ++ (Spend.zero.cw .nsl .nsl ++ [.int .i64 0])), .int .i64 e]) (.tup [claimG b s u, .int .i64 (claimE b s u)]) := by
  have e2 : claimG b s u = gul .zero .zero 0 := by unfold claimG; rw [if_neg (by rw [h]; exact h0)]
  rw [e2, h]
  exact Ent.tup ⟨Ent.agg (entL_app zero_ent (entL_app zero_ent (EntL.refl _))), Ent.refl _, trivial⟩
theorem okS_num {s : Spend} (h : okS s = true) : 0 ≤ s.time ∧ s.time ≤ 1099511627776 ∧ 0 ≤ s.number ∧ s.number ≤ 1073741824 := by
  have := (okS_all h).2.1
  unfold ctxB at this
  simp at this
  omega
theorem claim_out {os : List (Option Ob)} {b : Bas} {s : Spend} {u : Int} {x : Nat} (h : claimE b s u = 0) (ok : okS s = true) (hn : ¬ s.number ≥ 1073741824) (hx : x = s.nl) :
    Ent os (.tup [.agg (s.cells ++ (Spend.cw { s with number := IntKind.wrap .i64 (s.number + 1) } (.isl 3 s.nl fun r k => .int .i64 (clF s u b.gr.q x (r + 0) k)) (.isl 32 s.np fun r k => .int .u8 (s.pf (r + 0) k)) ++ [.int .i64 (spanA s.depth s.level s.index)])), .int .i64 0])
      (.tup [claimG b s u, .int .i64 (claimE b s u)]) := by
  subst hx
  have k := okS_num ok
  have e2 : claimG b s u = gul s (claimT s u b.gr.q) (fromS s) := by unfold claimG; rw [if_pos h]
  rw [e2, h, wI (by omega) (by omega), ← (okS_all ok).2.2.1]
  refine Ent.tup ⟨Ent.agg (entL_app (EntL.refl _) (entL_app (cw_ent (claimT s u b.gr.q) ?_ (Ent.refl _)) (EntL.refl _))), Ent.refl _, trivial⟩
  refine Ent.isl fun i j hi hj => congrArg (AV.int .i64) ?_
  unfold clF
  rw [Nat.add_zero, blt_t hi]
  rfl
theorem cl_step {b : Bas} {s : Spend} {u : Int} {x i j y : Nat} (hy : y = x) (hj : j < 3) (hu : 0 ≤ u ∧ u < b.gr.q) (h1 : 0 ≤ s.lf x 1 ∧ s.lf x 1 < b.gr.q) (h2 : 0 ≤ s.lf x 2 ∧ s.lf x 2 < b.gr.q) (hq : b.gr.q < 2305843009213693952) :
    (bif Nat.beq i (y + 0) && (Nat.ble 2 j && Nat.blt j 3) then Int.tmod (IntKind.wrap .i64 (clF s u b.gr.q x (y + 0) 2 + 1)) b.gr.q else bif Nat.beq i (y + 0) && (Nat.ble 1 j && Nat.blt j 2) then Int.tmod (IntKind.wrap .i64 (clF s u b.gr.q x (y + 0) 1 + u)) b.gr.q else clF s u b.gr.q x i j) = clF s u b.gr.q (x + 1) i j := by
  subst hy
  have c : ∀ k, clF s u b.gr.q y (y + 0) k = s.lf y k := fun k => by
    unfold clF
    rw [blt_f (Nat.le_of_eq (Nat.add_zero y).symm)]
    rfl
  rw [c, c, wI (by omega) (by omega), wI (by omega) (by omega), tmod_nn (by omega), tmod_nn (by omega)]
  by_cases e : i = y
  · subst e
    have c2 : clF s u b.gr.q (i + 1) i j = claimL s u b.gr.q i j := by
      unfold clF
      rw [blt_t (Nat.lt_succ_self i)]
      rfl
    have c3 : clF s u b.gr.q i i j = s.lf i j := c j
    rw [c2, c3, Nat.add_zero, Nat.beq_refl]
    match j, hj with
    | 0, _ => rfl
    | 1, _ => rfl
    | 2, _ => rfl
  · have hb : Nat.beq i (y + 0) = false := by
      cases hb : Nat.beq i (y + 0) with
      | false => rfl
      | true => exact absurd (Nat.eq_of_beq_eq_true hb) e
    rw [hb]
    show clF s u b.gr.q y i j = clF s u b.gr.q (y + 1) i j
    unfold clF
    by_cases l : i < y
    · rw [blt_t l, blt_t (by omega)]
    · rw [blt_f (by omega), blt_f (by omega)]
theorem odd_no {b : Bas} {s : Spend} (h : ¬ firstI (oddB b s) s.nl 0 ≥ 0) {i : Nat} (hi : i < s.nl) : (0 ≤ s.lf i 1 ∧ s.lf i 1 < b.gr.q) ∧ (0 ≤ s.lf i 2 ∧ s.lf i 2 < b.gr.q) := by
  have o := firstI_m (p := oddB b s) s.nl 0 (by omega) i hi
  unfold oddB at o
  rw [Nat.zero_add] at o
  simp at o
  exact ⟨scB_t o.1, scB_t o.2⟩
theorem claim_ok {s : Spend} {u q : Int} (h : okS s = true) (hn : ¬ s.number ≥ 1073741824) : okS (claimT s u q) = true := by
  have k := okS_num h
  unfold okS at h ⊢
  simp only [claimT]
  simp only [Bool.not_eq_true', Bool.or_eq_false_iff] at h ⊢
  exact ⟨⟨h.1.1, decide_eq_false (by omega)⟩, decide_eq_false (by omega)⟩
theorem claim_by {s : Spend} {u q : Int} (h : s.By) : (claimT s u q).By := ⟨h.root, h.payee⟩
theorem inv_minus {q : Int} (hq : 3 ≤ q) : invF (q - 1) q = q - 1 := invF_eq (by omega) ⟨q - 2, by grind⟩
theorem back_q {x u q : Int} (hu : 0 ≤ u ∧ u < q) : (x - (x + u) % q) % q * (q - 1) % q = u := by
  have e1 : (x - (x + u) % q) % q = (-u) % q := by
    rw [Int.sub_emod, Int.emod_emod_of_dvd _ (Int.dvd_refl q), ← Int.sub_emod]
    congr 1
    omega
  have e2 := Int.mul_ediv_add_emod (-u) q
  rw [e1]
  generalize (-u) / q = k at e2
  generalize (-u) % q = r at e2
  have e3 : r * (q - 1) = u + q * (r + k) := by
    have : r = -u - q * k := by omega
    subst this
    grind
  rw [e3, Int.add_mul_emod_self_left, Int.emod_eq_of_lt hu.1 hu.2]
theorem less_q {x q : Int} (hq : 3 ≤ q) (hx : 0 ≤ x ∧ x < q) : (x - (x + 1) % q) % q = q - 1 ∧ ¬ x = (x + 1) % q := by
  by_cases h : x + 1 = q
  · have e : (x + 1) % q = 0 := by rw [h, Int.emod_self]
    rw [e]
    exact ⟨by rw [Int.sub_zero, Int.emod_eq_of_lt hx.1 hx.2]; omega, by omega⟩
  · have e : (x + 1) % q = x + 1 := Int.emod_eq_of_lt (by omega) (by omega)
    rw [e]
    refine ⟨?_, by omega⟩
    rw [show x - (x + 1) = (q - 1) - q by omega, Int.sub_emod_right]
    exact Int.emod_eq_of_lt (by omega) (by omega)
theorem claim_sec {b : Bas} {s : Spend} {u : Int} (h : claimE b s u = 0) : (secR b s (claimT s u b.gr.q) (fromS s)).2 = 20 ∨ secR b s (claimT s u b.gr.q) (fromS s) = (u, 0) := by
  unfold claimE at h
  split at h
  · cases h
  rename_i h1
  split at h
  · cases h
  rename_i h2
  have hv : validB b = true := by
    cases hb : validB b with
    | true => rfl
    | false => exact absurd (Or.inl hb) h1
  have ok : okS s = true := by
    cases hb : okS s with
    | true => rfl
    | false => exact absurd (Or.inr hb) h1
  have hf : ¬ firstI (oddB b s) s.nl 0 ≥ 0 := fun hh => h2 (Or.inl (decide_eq_true hh))
  have hu : scB b u = true := by
    cases hb : scB b u with
    | true => rfl
    | false => exact absurd (Or.inr (Or.inl hb)) h2
  have hn : ¬ s.number ≥ 1073741824 := fun hh => h2 (Or.inr (Or.inr hh))
  have hp := okS_pos ok
  have hq3 := (validB_ok hv).q3
  obtain ⟨_, _, _, _, hd⟩ := okS_all ok
  have nl : ¬ (fromS s < fromS s ∨ toS s ≤ fromS s) := by omega
  have hl : leafN s (fromS s) = 0 := by unfold leafN; rw [Int.sub_self]; rfl
  have f0 : firstI (fun k => (claimT s u b.gr.q).lf k 0 == s.lf 0 0) (claimT s u b.gr.q).nl 0 = 0 := by
    obtain ⟨n, hn2⟩ : ∃ n, s.nl = n + 1 := ⟨s.nl - 1, by omega⟩
    show firstI (fun k => claimL s u b.gr.q k 0 == s.lf 0 0) s.nl 0 = 0
    rw [hn2]
    unfold firstI
    rw [if_pos (show (claimL s u b.gr.q 0 0 == s.lf 0 0) = true from beq_self_eq_true (s.lf 0 0))]
    rfl
  have hm : mateS s (claimT s u b.gr.q) 0 = 0 := by unfold mateS; rw [f0]; rfl
  have hmem : fromS s ∈ sharedL s (claimT s u b.gr.q) := by
    rw [shared_has ok nl, hl]
    refine ⟨rfl, ?_⟩
    unfold found
    rw [f0]
    decide
  have o := odd_no hf hp
  have hu' := scB_t hu
  have sc : ∀ z, 0 ≤ z ∧ z < b.gr.q → scB b z = true := fun z hz => by unfold scB; simp [hz]
  have g3 := And.intro hv (And.intro ok (claim_ok (u := u) (q := b.gr.q) ok hn))
  have em : ∀ z : Int, 0 ≤ z % b.gr.q ∧ z % b.gr.q < b.gr.q := fun z => ⟨Int.emod_nonneg _ (by omega), Int.emod_lt_of_pos _ (by omega)⟩
  have k1 : (claimT s u b.gr.q).lf 0 1 = (s.lf 0 1 + u) % b.gr.q := rfl
  have k2 : (claimT s u b.gr.q).lf 0 2 = (s.lf 0 2 + 1) % b.gr.q := rfl
  have hs : scB b (s.lf (leafN s (fromS s)) 1) = true ∧ scB b (s.lf (leafN s (fromS s)) 2) = true ∧ scB b ((claimT s u b.gr.q).lf (mateS s (claimT s u b.gr.q) (leafN s (fromS s))) 1) = true ∧ scB b ((claimT s u b.gr.q).lf (mateS s (claimT s u b.gr.q) (leafN s (fromS s))) 2) = true := by
    rw [hl, hm, k1, k2]
    exact ⟨sc _ o.1, sc _ o.2, sc _ (em _), sc _ (em _)⟩
  by_cases hc : chS b s = chS b (claimT s u b.gr.q)
  · left
    rw [sec_5 g3 nl hmem hs hc]
  · right
    have l := less_q hq3 o.2
    rw [sec_7 g3 nl hmem hs hc (by rw [hl, hm, k2]; exact l.2), hl, hm, k1, k2, l.1, inv_minus hq3, back_q hu']
theorem claim_gul {b : Bas} {s : Spend} {u : Int} (h : claimE b s u = 0) : claimG b s u = gul s (claimT s u b.gr.q) (fromS s) := by unfold claimG; rw [if_pos h]
theorem few_np {s : Spend} (h : fewB s = true) : s.nl ≤ 1000 ∧ s.np ≤ 1000 := by
  simp [fewB] at h
  omega
theorem claim_cases (b : Bas) (s : Spend) (u : Int) : claimE b s u = 0 ∨ claimE b s u = 1 ∨ claimE b s u = 2 := by
  unfold claimE
  split
  · exact Or.inr (Or.inl rfl)
  · split
    · exact Or.inr (Or.inr rfl)
    · exact Or.inl rfl
end Go.Sp

namespace Go.Proofs.YtdaaddkipdmajaaGreatDoor
open Go Go.Am Go.Sp
set_option maxRecDepth 100000

theorem claim_c (b : Bas) (s : Spend) (u : Int) (hw : b.gr.W) (hs : s.nl ≤ 1000) (hp : s.np ≤ 1000) : Pure Tryz.prog gl0 46 [b.av, s.av, .int .i64 u] (.tup [claimG b s u, .int .i64 (claimE b s u)]) := by
  have c1 := bvalid_c b hw
  have c2 := rogueformed_c s hs
  have c3 := containsO_c b s.lf s.nl (by omega)
  have c4 := rgscalar_c b
  have c5 := span_c s.depth s.level s.index
  have c6 := copied_c s hs hp
  refine pure_sk (own := owR) Tryz.func46 (by kernel_rfl) mixed (by kernel_rfl)
    (.sc (true) 52 ([AV.agg (Bas.cells b)]) (AV.bool (validB b)) (.sc ((!validB b) == false) 114 ([AV.agg (Spend.cells s)]) (AV.bool (okS s)) (.br (!validB b || !okS s) (.out (AV.tup [AV.agg [Zi 0, Zi 0, Zi 0, Zi 0, Zi 0, Zb 0, Zb 0, Zb 0, Zb 0, Zb 0, Zb 0, Zb 0, Zb 0, Zb 0, Zb 0, Zb 0, Zb 0, Zb 0, Zb 0, Zb 0, Zb 0, Zb 0, Zb 0, Zb 0, Zb 0, Zb 0, Zb 0, Zb 0, Zb 0, Zb 0, Zb 0, Zb 0, Zb 0, Zb 0, Zb 0, Zb 0, Zb 0, Zi 0, Zi 0, Zi 0, Zi 0, Zi 0, Zi 0, Zb 0, Zb 0, Zb 0, Zb 0, Zb 0, Zb 0, Zb 0, Zb 0, Zb 0, Zb 0, Zb 0, Zb 0, Zb 0, Zb 0, Zb 0, Zb 0, Zb 0, Zb 0, Zb 0, Zb 0, Zb 0, Zb 0, Zb 0, Zb 0, Zb 0, Zb 0, Zb 0, Zb 0, Zb 0, Zb 0, Zb 0, Zb 0, Zi 0, Zi 0, AV.nsl, Zi 0, AV.nsl, Zi 0, Zi 0, Zi 0, Zi 0, Zi 0, Zb 0, Zb 0, Zb 0, Zb 0, Zb 0, Zb 0, Zb 0, Zb 0, Zb 0, Zb 0, Zb 0, Zb 0, Zb 0, Zb 0, Zb 0, Zb 0, Zb 0, Zb 0, Zb 0, Zb 0, Zb 0, Zb 0, Zb 0, Zb 0, Zb 0, Zb 0, Zb 0, Zb 0, Zb 0, Zb 0, Zb 0, Zb 0, Zi 0, Zi 0, Zi 0, Zi 0, Zi 0, Zi 0, Zb 0, Zb 0, Zb 0, Zb 0, Zb 0, Zb 0, Zb 0, Zb 0, Zb 0, Zb 0, Zb 0, Zb 0, Zb 0, Zb 0, Zb 0, Zb 0, Zb 0, Zb 0, Zb 0, Zb 0, Zb 0, Zb 0, Zb 0, Zb 0, Zb 0, Zb 0, Zb 0, Zb 0, Zb 0, Zb 0, Zb 0, Zb 0, Zi 0, Zi 0, AV.nsl, Zi 0, AV.nsl, Zi 0], Zi 1]) [] (AV.tup [claimG b s u, Zi (claimE b s u)]) []) (.sc (true) 115 ([AV.isl (3) s.16 fun (i j : Nat) => Zi (s.17 i j), AV.fn (Fn.func (116 : Nat)) [] [AV.ipt (6) fun (k : Nat) => atL (Bas.cells b) k]]) (AV.bool (decide (firstI (fun (i : Nat) => !(scB b (Spend.lf s i (1 : Nat)) && scB b (Spend.lf s i (2 : Nat)))) (Spend.nl s) (0 : Nat) ≥ (0 : Int)))) (.sc (decide (firstI (fun (i : Nat) => !(scB b (s.17 i (1)) && scB b (s.17 i (2)))) s.16 (0) ≥ (0 : Int)) == false) 117 ([AV.agg (Bas.cells b), Zi u]) (AV.bool (scB b u)) (.br (decide (firstI (fun (i : Nat) => !(scB b (s.17 i (1)) && scB b (s.17 i (2)))) s.16 (0) ≥ (0 : Int)) || !scB b u || decide (s.15 ≥ (1073741824 : Int))) (.out (AV.tup [AV.agg [Zi 0, Zi 0, Zi 0, Zi 0, Zi 0, Zb 0, Zb 0, Zb 0, Zb 0, Zb 0, Zb 0, Zb 0, Zb 0, Zb 0, Zb 0, Zb 0, Zb 0, Zb 0, Zb 0, Zb 0, Zb 0, Zb 0, Zb 0, Zb 0, Zb 0, Zb 0, Zb 0, Zb 0, Zb 0, Zb 0, Zb 0, Zb 0, Zb 0, Zb 0, Zb 0, Zb 0, Zb 0, Zi 0, Zi 0, Zi 0, Zi 0, Zi 0, Zi 0, Zb 0, Zb 0, Zb 0, Zb 0, Zb 0, Zb 0, Zb 0, Zb 0, Zb 0, Zb 0, Zb 0, Zb 0, Zb 0, Zb 0, Zb 0, Zb 0, Zb 0, Zb 0, Zb 0, Zb 0, Zb 0, Zb 0, Zb 0, Zb 0, Zb 0, Zb 0, Zb 0, Zb 0, Zb 0, Zb 0, Zb 0, Zb 0, Zi 0, Zi 0, AV.nsl, Zi 0, AV.nsl, Zi 0, Zi 0, Zi 0, Zi 0, Zi 0, Zb 0, Zb 0, Zb 0, Zb 0, Zb 0, Zb 0, Zb 0, Zb 0, Zb 0, Zb 0, Zb 0, Zb 0, Zb 0, Zb 0, Zb 0, Zb 0, Zb 0, Zb 0, Zb 0, Zb 0, Zb 0, Zb 0, Zb 0, Zb 0, Zb 0, Zb 0, Zb 0, Zb 0, Zb 0, Zb 0, Zb 0, Zb 0, Zi 0, Zi 0, Zi 0, Zi 0, Zi 0, Zi 0, Zb 0, Zb 0, Zb 0, Zb 0, Zb 0, Zb 0, Zb 0, Zb 0, Zb 0, Zb 0, Zb 0, Zb 0, Zb 0, Zb 0, Zb 0, Zb 0, Zb 0, Zb 0, Zb 0, Zb 0, Zb 0, Zb 0, Zb 0, Zb 0, Zb 0, Zb 0, Zb 0, Zb 0, Zb 0, Zb 0, Zb 0, Zb 0, Zi 0, Zi 0, AV.nsl, Zi 0, AV.nsl, Zi 0], Zi 2]) [] (AV.tup [claimG b s u, Zi (claimE b s u)]) []) (.sc (true) 25 ([Zi s.4, AV.agg [Zi s.11, Zi s.12]]) (AV.tup [Zi (spanA (Spend.depth s) (Spend.level s) (Spend.index s)), Zi (spanZ (Spend.depth s) (Spend.level s) (Spend.index s)), Zi (spanE (Spend.depth s) (Spend.level s) (Spend.index s))]) (.br (spanE s.4 s.11 s.12 != (0 : Int)) (.out (AV.tup [AV.agg [Zi 0, Zi 0, Zi 0, Zi 0, Zi 0, Zb 0, Zb 0, Zb 0, Zb 0, Zb 0, Zb 0, Zb 0, Zb 0, Zb 0, Zb 0, Zb 0, Zb 0, Zb 0, Zb 0, Zb 0, Zb 0, Zb 0, Zb 0, Zb 0, Zb 0, Zb 0, Zb 0, Zb 0, Zb 0, Zb 0, Zb 0, Zb 0, Zb 0, Zb 0, Zb 0, Zb 0, Zb 0, Zi 0, Zi 0, Zi 0, Zi 0, Zi 0, Zi 0, Zb 0, Zb 0, Zb 0, Zb 0, Zb 0, Zb 0, Zb 0, Zb 0, Zb 0, Zb 0, Zb 0, Zb 0, Zb 0, Zb 0, Zb 0, Zb 0, Zb 0, Zb 0, Zb 0, Zb 0, Zb 0, Zb 0, Zb 0, Zb 0, Zb 0, Zb 0, Zb 0, Zb 0, Zb 0, Zb 0, Zb 0, Zb 0, Zi 0, Zi 0, AV.nsl, Zi 0, AV.nsl, Zi 0, Zi 0, Zi 0, Zi 0, Zi 0, Zb 0, Zb 0, Zb 0, Zb 0, Zb 0, Zb 0, Zb 0, Zb 0, Zb 0, Zb 0, Zb 0, Zb 0, Zb 0, Zb 0, Zb 0, Zb 0, Zb 0, Zb 0, Zb 0, Zb 0, Zb 0, Zb 0, Zb 0, Zb 0, Zb 0, Zb 0, Zb 0, Zb 0, Zb 0, Zb 0, Zb 0, Zb 0, Zi 0, Zi 0, Zi 0, Zi 0, Zi 0, Zi 0, Zb 0, Zb 0, Zb 0, Zb 0, Zb 0, Zb 0, Zb 0, Zb 0, Zb 0, Zb 0, Zb 0, Zb 0, Zb 0, Zb 0, Zb 0, Zb 0, Zb 0, Zb 0, Zb 0, Zb 0, Zb 0, Zb 0, Zb 0, Zb 0, Zb 0, Zb 0, Zb 0, Zb 0, Zb 0, Zb 0, Zb 0, Zb 0, Zi 0, Zi 0, AV.nsl, Zi 0, AV.nsl, Zi 0], Zi (spanE s.4 s.11 s.12)]) [] (AV.tup [claimG b s u, Zi (claimE b s u)]) []) (.gc 118 ([]) ([AV.agg (Spend.cells s)]) (AV.agg (Spend.cw s (AV.osl (0 : Nat) (3 : Nat) (0 : Nat) (Spend.nl s)) (AV.osl (1 : Nat) (32 : Nat) (0 : Nat) (Spend.np s)))) ([some ⟨(3 : Nat), Spend.nl s, true, Rep.fn fun (i j : Nat) => Zi (Spend.lf s i j)⟩, some ⟨(32 : Nat), Spend.np s, true, Rep.fn fun (i j : Nat) => Zb (Spend.pf s i j)⟩]) (.loop ({ x : Nat // x ≤ Spend.nl s }) (fun (x : { x : Nat // x ≤ Spend.nl s }) => mkSt [2, 3, 4, 6, 9, 12, 66, 67] [Zi u, AV.own (0) (6) (0) (0) (6), AV.own (1) (80) (0) (0) (80), AV.own (2) (161) (0) (0) (161), Zi (spanA s.4 s.11 s.12), AV.own (3) (80) (0) (0) (80), Zi (↑s.16 : Int), Zi (↑(x.1) : Int)] [some ⟨6, 1, true, Rep.lst [Bas.cells b]⟩, some ⟨80, 1, true, Rep.lst [Spend.cells s]⟩, some ⟨161, 1, true, Rep.lst [[Zi 0, Zi 0, Zi 0, Zi 0, Zi 0, Zb 0, Zb 0, Zb 0, Zb 0, Zb 0, Zb 0, Zb 0, Zb 0, Zb 0, Zb 0, Zb 0, Zb 0, Zb 0, Zb 0, Zb 0, Zb 0, Zb 0, Zb 0, Zb 0, Zb 0, Zb 0, Zb 0, Zb 0, Zb 0, Zb 0, Zb 0, Zb 0, Zb 0, Zb 0, Zb 0, Zb 0, Zb 0, Zi 0, Zi 0, Zi 0, Zi 0, Zi 0, Zi 0, Zb 0, Zb 0, Zb 0, Zb 0, Zb 0, Zb 0, Zb 0, Zb 0, Zb 0, Zb 0, Zb 0, Zb 0, Zb 0, Zb 0, Zb 0, Zb 0, Zb 0, Zb 0, Zb 0, Zb 0, Zb 0, Zb 0, Zb 0, Zb 0, Zb 0, Zb 0, Zb 0, Zb 0, Zb 0, Zb 0, Zb 0, Zb 0, Zi 0, Zi 0, AV.nsl, Zi 0, AV.nsl, Zi 0, Zi 0, Zi 0, Zi 0, Zi 0, Zb 0, Zb 0, Zb 0, Zb 0, Zb 0, Zb 0, Zb 0, Zb 0, Zb 0, Zb 0, Zb 0, Zb 0, Zb 0, Zb 0, Zb 0, Zb 0, Zb 0, Zb 0, Zb 0, Zb 0, Zb 0, Zb 0, Zb 0, Zb 0, Zb 0, Zb 0, Zb 0, Zb 0, Zb 0, Zb 0, Zb 0, Zb 0, Zi 0, Zi 0, Zi 0, Zi 0, Zi 0, Zi 0, Zb 0, Zb 0, Zb 0, Zb 0, Zb 0, Zb 0, Zb 0, Zb 0, Zb 0, Zb 0, Zb 0, Zb 0, Zb 0, Zb 0, Zb 0, Zb 0, Zb 0, Zb 0, Zb 0, Zb 0, Zb 0, Zb 0, Zb 0, Zb 0, Zb 0, Zb 0, Zb 0, Zb 0, Zb 0, Zb 0, Zb 0, Zb 0, Zi 0, Zi 0, AV.nsl, Zi 0, AV.nsl, Zi 0]]⟩, some ⟨80, 1, true, Rep.lst [Zi (Spend.bank s) :: Zi (Spend.epoch s) :: Zi (Spend.denom s) :: Zi (Spend.depth s) :: Zi (Spend.a s) :: (u8c (Spend.root s) ++ Zi (Spend.z s) :: Zi (Spend.sa s) :: Zi (Spend.sb s) :: Zi (Spend.r s) :: Zi (Spend.level s) :: Zi (Spend.index s) :: (u8c (Spend.payee s) ++ [Zi (Spend.time s), Zi (IntKind.wrap IntKind.i64 ((bif Nat.beq (0) (0 : Nat) then Spend.number s else (0 : Int)) + (1 : Int))), AV.osl (4) (3) (0) s.16, Zi (Spend.pidx s), AV.osl (5) (32) (0) s.19]))]⟩, some ⟨(3 : Nat), Spend.nl s, true, Rep.fn fun (i j : Nat) => Zi (clF s u (Grp.q (Bas.gr b)) (x.1) i j)⟩, some ⟨32, s.19, true, Rep.fn fun (i j : Nat) => Zb (Spend.pf s i j)⟩]) (fun (x : { x : Nat // x ≤ Spend.nl s }) => Spend.nl s - x.1) (⟨(0 : Nat), Nat.zero_le (Spend.nl s)⟩) ([2, 3, 4, 6, 9, 12, 66, 67]) ([0, 8, 16, 376, 368, 369]) ([Zi u, AV.own (0) (6) (0) (0) (6), AV.own (1) (80) (0) (0) (80), AV.own (2) (161) (0) (0) (161), Zi (spanA s.4 s.11 s.12), AV.own (3) (80) (0) (0) (80), Zi (↑s.16 : Int), Zi 0]) ([some ⟨6, 1, true, Rep.lst [Bas.cells b]⟩, some ⟨80, 1, true, Rep.lst [Spend.cells s]⟩, some ⟨161, 1, true, Rep.lst [[Zi 0, Zi 0, Zi 0, Zi 0, Zi 0, Zb 0, Zb 0, Zb 0, Zb 0, Zb 0, Zb 0, Zb 0, Zb 0, Zb 0, Zb 0, Zb 0, Zb 0, Zb 0, Zb 0, Zb 0, Zb 0, Zb 0, Zb 0, Zb 0, Zb 0, Zb 0, Zb 0, Zb 0, Zb 0, Zb 0, Zb 0, Zb 0, Zb 0, Zb 0, Zb 0, Zb 0, Zb 0, Zi 0, Zi 0, Zi 0, Zi 0, Zi 0, Zi 0, Zb 0, Zb 0, Zb 0, Zb 0, Zb 0, Zb 0, Zb 0, Zb 0, Zb 0, Zb 0, Zb 0, Zb 0, Zb 0, Zb 0, Zb 0, Zb 0, Zb 0, Zb 0, Zb 0, Zb 0, Zb 0, Zb 0, Zb 0, Zb 0, Zb 0, Zb 0, Zb 0, Zb 0, Zb 0, Zb 0, Zb 0, Zb 0, Zi 0, Zi 0, AV.nsl, Zi 0, AV.nsl, Zi 0, Zi 0, Zi 0, Zi 0, Zi 0, Zb 0, Zb 0, Zb 0, Zb 0, Zb 0, Zb 0, Zb 0, Zb 0, Zb 0, Zb 0, Zb 0, Zb 0, Zb 0, Zb 0, Zb 0, Zb 0, Zb 0, Zb 0, Zb 0, Zb 0, Zb 0, Zb 0, Zb 0, Zb 0, Zb 0, Zb 0, Zb 0, Zb 0, Zb 0, Zb 0, Zb 0, Zb 0, Zi 0, Zi 0, Zi 0, Zi 0, Zi 0, Zi 0, Zb 0, Zb 0, Zb 0, Zb 0, Zb 0, Zb 0, Zb 0, Zb 0, Zb 0, Zb 0, Zb 0, Zb 0, Zb 0, Zb 0, Zb 0, Zb 0, Zb 0, Zb 0, Zb 0, Zb 0, Zb 0, Zb 0, Zb 0, Zb 0, Zb 0, Zb 0, Zb 0, Zb 0, Zb 0, Zb 0, Zb 0, Zb 0, Zi 0, Zi 0, AV.nsl, Zi 0, AV.nsl, Zi 0]]⟩, some ⟨80, 1, true, Rep.lst [Zi (Spend.bank s) :: Zi (Spend.epoch s) :: Zi (Spend.denom s) :: Zi (Spend.depth s) :: Zi (Spend.a s) :: (u8c (Spend.root s) ++ Zi (Spend.z s) :: Zi (Spend.sa s) :: Zi (Spend.sb s) :: Zi (Spend.r s) :: Zi (Spend.level s) :: Zi (Spend.index s) :: (u8c (Spend.payee s) ++ [Zi (Spend.time s), Zi (IntKind.wrap IntKind.i64 ((bif Nat.beq (0) (0 : Nat) then Spend.number s else (0 : Int)) + (1 : Int))), AV.osl (4) (3) (0) s.16, Zi (Spend.pidx s), AV.osl (5) (32) (0) s.19]))]⟩, some ⟨3, s.16, true, Rep.fn fun (i j : Nat) => Zi (Spend.lf s i j)⟩, some ⟨32, s.19, true, Rep.fn fun (i j : Nat) => Zb (Spend.pf s i j)⟩]) (fun x12 => (.br (decide ((↑x12.1 : Int) < (↑s.16 : Int))) (.req ((0 : Int) ≤ (↑x12.1 : Int) ∧ (↑x12.1 : Int) < (↑s.16 : Int)) (.req ((Bas.gr b).2 ≠ (0 : Int)) (.req ((Bas.gr b).2 ≠ (0 : Int)) (.again (Again (0) (fun (x : { x : Nat // x ≤ Spend.nl s }) => mkSt [2, 3, 4, 6, 9, 12, 66, 67] [Zi u, AV.own (0) (6) (0) (0) (6), AV.own (1) (80) (0) (0) (80), AV.own (2) (161) (0) (0) (161), Zi (spanA s.4 s.11 s.12), AV.own (3) (80) (0) (0) (80), Zi (↑s.16 : Int), Zi (↑(x.1) : Int)] [some ⟨6, 1, true, Rep.lst [Bas.cells b]⟩, some ⟨80, 1, true, Rep.lst [Spend.cells s]⟩, some ⟨161, 1, true, Rep.lst [[Zi 0, Zi 0, Zi 0, Zi 0, Zi 0, Zb 0, Zb 0, Zb 0, Zb 0, Zb 0, Zb 0, Zb 0, Zb 0, Zb 0, Zb 0, Zb 0, Zb 0, Zb 0, Zb 0, Zb 0, Zb 0, Zb 0, Zb 0, Zb 0, Zb 0, Zb 0, Zb 0, Zb 0, Zb 0, Zb 0, Zb 0, Zb 0, Zb 0, Zb 0, Zb 0, Zb 0, Zb 0, Zi 0, Zi 0, Zi 0, Zi 0, Zi 0, Zi 0, Zb 0, Zb 0, Zb 0, Zb 0, Zb 0, Zb 0, Zb 0, Zb 0, Zb 0, Zb 0, Zb 0, Zb 0, Zb 0, Zb 0, Zb 0, Zb 0, Zb 0, Zb 0, Zb 0, Zb 0, Zb 0, Zb 0, Zb 0, Zb 0, Zb 0, Zb 0, Zb 0, Zb 0, Zb 0, Zb 0, Zb 0, Zb 0, Zi 0, Zi 0, AV.nsl, Zi 0, AV.nsl, Zi 0, Zi 0, Zi 0, Zi 0, Zi 0, Zb 0, Zb 0, Zb 0, Zb 0, Zb 0, Zb 0, Zb 0, Zb 0, Zb 0, Zb 0, Zb 0, Zb 0, Zb 0, Zb 0, Zb 0, Zb 0, Zb 0, Zb 0, Zb 0, Zb 0, Zb 0, Zb 0, Zb 0, Zb 0, Zb 0, Zb 0, Zb 0, Zb 0, Zb 0, Zb 0, Zb 0, Zb 0, Zi 0, Zi 0, Zi 0, Zi 0, Zi 0, Zi 0, Zb 0, Zb 0, Zb 0, Zb 0, Zb 0, Zb 0, Zb 0, Zb 0, Zb 0, Zb 0, Zb 0, Zb 0, Zb 0, Zb 0, Zb 0, Zb 0, Zb 0, Zb 0, Zb 0, Zb 0, Zb 0, Zb 0, Zb 0, Zb 0, Zb 0, Zb 0, Zb 0, Zb 0, Zb 0, Zb 0, Zb 0, Zb 0, Zi 0, Zi 0, AV.nsl, Zi 0, AV.nsl, Zi 0]]⟩, some ⟨80, 1, true, Rep.lst [Zi (Spend.bank s) :: Zi (Spend.epoch s) :: Zi (Spend.denom s) :: Zi (Spend.depth s) :: Zi (Spend.a s) :: (u8c (Spend.root s) ++ Zi (Spend.z s) :: Zi (Spend.sa s) :: Zi (Spend.sb s) :: Zi (Spend.r s) :: Zi (Spend.level s) :: Zi (Spend.index s) :: (u8c (Spend.payee s) ++ [Zi (Spend.time s), Zi (IntKind.wrap IntKind.i64 ((bif Nat.beq (0) (0 : Nat) then Spend.number s else (0 : Int)) + (1 : Int))), AV.osl (4) (3) (0) s.16, Zi (Spend.pidx s), AV.osl (5) (32) (0) s.19]))]⟩, some ⟨(3 : Nat), Spend.nl s, true, Rep.fn fun (i j : Nat) => Zi (clF s u (Grp.q (Bas.gr b)) (x.1) i j)⟩, some ⟨32, s.19, true, Rep.fn fun (i j : Nat) => Zb (Spend.pf s i j)⟩]) (fun (x : { x : Nat // x ≤ Spend.nl s }) => Spend.nl s - x.1) x12) ([2, 3, 4, 6, 9, 12, 66, 67]) ([0, 1, 2, 3, 4, 5]) ([Zi u, AV.own (0) (6) (0) (0) (6), AV.own (1) (80) (0) (0) (80), AV.own (2) (161) (0) (0) (161), Zi (spanA s.4 s.11 s.12), AV.own (3) (80) (0) (0) (80), Zi (↑s.16 : Int), Zi (IntKind.wrap IntKind.i64 ((↑x12.1 : Int) + (1 : Int)))]) ([some ⟨6, 1, true, Rep.lst [Bas.cells b]⟩, some ⟨80, 1, true, Rep.lst [Spend.cells s]⟩, some ⟨161, 1, true, Rep.lst [[Zi 0, Zi 0, Zi 0, Zi 0, Zi 0, Zb 0, Zb 0, Zb 0, Zb 0, Zb 0, Zb 0, Zb 0, Zb 0, Zb 0, Zb 0, Zb 0, Zb 0, Zb 0, Zb 0, Zb 0, Zb 0, Zb 0, Zb 0, Zb 0, Zb 0, Zb 0, Zb 0, Zb 0, Zb 0, Zb 0, Zb 0, Zb 0, Zb 0, Zb 0, Zb 0, Zb 0, Zb 0, Zi 0, Zi 0, Zi 0, Zi 0, Zi 0, Zi 0, Zb 0, Zb 0, Zb 0, Zb 0, Zb 0, Zb 0, Zb 0, Zb 0, Zb 0, Zb 0, Zb 0, Zb 0, Zb 0, Zb 0, Zb 0, Zb 0, Zb 0, Zb 0, Zb 0, Zb 0, Zb 0, Zb 0, Zb 0, Zb 0, Zb 0, Zb 0, Zb 0, Zb 0, Zb 0, Zb 0, Zb 0, Zb 0, Zi 0, Zi 0, AV.nsl, Zi 0, AV.nsl, Zi 0, Zi 0, Zi 0, Zi 0, Zi 0, Zb 0, Zb 0, Zb 0, Zb 0, Zb 0, Zb 0, Zb 0, Zb 0, Zb 0, Zb 0, Zb 0, Zb 0, Zb 0, Zb 0, Zb 0, Zb 0, Zb 0, Zb 0, Zb 0, Zb 0, Zb 0, Zb 0, Zb 0, Zb 0, Zb 0, Zb 0, Zb 0, Zb 0, Zb 0, Zb 0, Zb 0, Zb 0, Zi 0, Zi 0, Zi 0, Zi 0, Zi 0, Zi 0, Zb 0, Zb 0, Zb 0, Zb 0, Zb 0, Zb 0, Zb 0, Zb 0, Zb 0, Zb 0, Zb 0, Zb 0, Zb 0, Zb 0, Zb 0, Zb 0, Zb 0, Zb 0, Zb 0, Zb 0, Zb 0, Zb 0, Zb 0, Zb 0, Zb 0, Zb 0, Zb 0, Zb 0, Zb 0, Zb 0, Zb 0, Zb 0, Zi 0, Zi 0, AV.nsl, Zi 0, AV.nsl, Zi 0]]⟩, some ⟨80, 1, true, Rep.lst [Zi (Spend.bank s) :: Zi (Spend.epoch s) :: Zi (Spend.denom s) :: Zi (Spend.depth s) :: Zi (Spend.a s) :: (u8c (Spend.root s) ++ Zi (Spend.z s) :: Zi (Spend.sa s) :: Zi (Spend.sb s) :: Zi (Spend.r s) :: Zi (Spend.level s) :: Zi (Spend.index s) :: (u8c (Spend.payee s) ++ [Zi (Spend.time s), Zi (IntKind.wrap IntKind.i64 ((bif Nat.beq (0) (0 : Nat) then Spend.number s else (0 : Int)) + (1 : Int))), AV.osl (4) (3) (0) s.16, Zi (Spend.pidx s), AV.osl (5) (32) (0) s.19]))]⟩, some ⟨3, s.16, true, Rep.fn fun (i j : Nat) => Zi (bif Nat.beq i (Int.toNat (↑x12.1 : Int) + 0) && (Nat.ble (2) j && Nat.blt j (3)) then Int.tmod (IntKind.wrap IntKind.i64 (clF s u (Bas.gr b).2 x12.1 (Int.toNat (↑x12.1 : Int) + 0) (2) + (1 : Int))) (Bas.gr b).2 else bif Nat.beq i (Int.toNat (↑x12.1 : Int) + 0) && (Nat.ble (1) j && Nat.blt j (2)) then Int.tmod (IntKind.wrap IntKind.i64 (clF s u (Bas.gr b).2 x12.1 (Int.toNat (↑x12.1 : Int) + 0) (1) + u)) (Bas.gr b).2 else clF s u (Bas.gr b).2 x12.1 i j)⟩, some ⟨32, s.19, true, Rep.fn fun (i j : Nat) => Zb (Spend.pf s i j)⟩]))))) (.gc 118 ([]) ([AV.agg (Spend.cells s)]) (AV.agg (Spend.cw s (AV.osl (0 : Nat) (3 : Nat) (0 : Nat) (Spend.nl s)) (AV.osl (1 : Nat) (32 : Nat) (0 : Nat) (Spend.np s)))) ([some ⟨(3 : Nat), Spend.nl s, true, Rep.fn fun (i j : Nat) => Zi (Spend.lf s i j)⟩, some ⟨(32 : Nat), Spend.np s, true, Rep.fn fun (i j : Nat) => Zb (Spend.pf s i j)⟩]) (.out (AV.tup [AV.agg (Spend.cells s ++ Zi s.1 :: Zi s.2 :: Zi s.3 :: Zi s.4 :: Zi s.5 :: (u8c s.6 ++ Zi s.7 :: Zi s.8 :: Zi s.9 :: Zi s.10 :: Zi s.11 :: Zi s.12 :: (u8c s.13 ++ [Zi s.14, Zi (IntKind.wrap IntKind.i64 (s.15 + (1 : Int))), AV.isl (3) s.16 fun (r k : Nat) => Zi (clF s u (Bas.gr b).2 x12.1 (r + 0) k), Zi s.18, AV.isl (32) s.19 fun (r k : Nat) => Zb (s.20 (r + 0) k), Zi (spanA s.4 s.11 s.12)]))), Zi 0]) [] (AV.tup [claimG b s u, Zi (claimE b s u)]) []))))))))))))))
    (by kernel_rfl) ?_
  refine k_sc (c1) ?_
  refine k_scg (fun h1 => c2) ?_
  refine k_br (fun h2 => ?_) (fun h2 => ?_)
  · have g2 := (cnd_or_t (cnd_not_t cnd_id_f) (cnd_not_t cnd_id_f)) h2
    exact k_out (claim_err (claimE_1 g2) (by decide))
  · have g2 := (cnd_or_f (cnd_not_f cnd_id_t) (cnd_not_f cnd_id_t)) h2
    refine k_sc (c3) ?_
    refine k_scg (fun h5 => c4 (u)) ?_
    refine k_br (fun h6 => ?_) (fun h6 => ?_)
    · have g6 := (cnd_or_t (cnd_or_t cnd_dec_t (cnd_not_t cnd_id_f)) cnd_dec_t) h6
      exact k_out (claim_err (claimE_2 g2 g6) (by decide))
    · have g6 := (cnd_or_f (cnd_or_f cnd_dec_f (cnd_not_f cnd_id_t)) cnd_dec_f) h6
      refine k_sc (c5) ?_
      refine k_br (fun h9 => ?_) (fun h9 => ?_)
      · have g9 := cnd_bne_t h9
        exact k_out ((by exfalso; exact g9 (span_d (okS_all g2.2).1).1))
      · have g9 := cnd_bne_f h9
        refine k_gc (c6) ?_
        refine k_loop (fun _ hs => hs.le (⟨.refl _, .refl _, .refl _, .refl _, .refl _, .refl _, .refl _, .refl _, trivial⟩) (⟨.refl _, .refl _, .refl _, .refl _, .refl _, .refl _, trivial⟩)) (fun x12 => ?_)
        try (have q12 := x12.2; dsimp only at q12)
        refine k_br (fun h13 => ?_) (fun h13 => ?_)
        · have g13 := cnd_dec_t h13
          refine k_req (by omega) ?_
          refine k_req (by have := validB_q g2.1; omega) ?_
          refine k_req (by have := validB_q g2.1; omega) ?_
          exact k_again (⟨x12.1 + 1, by omega⟩) (fun _ hs => hs.le (⟨.refl _, .refl _, .refl _, .refl _, .refl _, .refl _, .refl _, inc_ent (by omega), trivial⟩) (⟨.refl _, .refl _, .refl _, .refl _, by have o := odd_no (b := b) (s := s) g6.1.1 (i := x12.1) (by omega); exact ⟨rfl, rfl, rfl, fun i j hi hj => Ent.of_eq (congrArg (AV.int .i64) (cl_step (Int.toNat_natCast _) hj (scB_t g6.1.2) o.1 o.2 (validB_q g2.1).2))⟩, .refl _, trivial⟩)) (by dsimp only; omega)
        · have g13 := cnd_dec_f h13
          refine k_gc (c6) ?_
          exact k_out (claim_out (claimE_0 g2 g6) g2.2 g6.2 (by omega))

end Go.Proofs.YtdaaddkipdmajaaGreatDoor

namespace Go.Sp
open Go Go.Am

def catF (l r : Nat → Int) (i : Nat) : Int := bif Nat.blt i 32 then l i else r (i - 32)
def nodeF (l r : Nat → Int) : Nat → Int := tagF "specie/node".toUTF8 64 (catF l r)
theorem cat_by {l r : Nat → Int} (hl : byB l 32) (hr : byB r 32) : byB (catF l r) 64 := fun i hi => by
  unfold catF
  by_cases h : i < 32
  · rw [blt_t h]; exact hl i h
  · rw [blt_f (Nat.le_of_not_lt h)]; exact hr _ (by omega)
theorem node_by (l r : Nat → Int) (n : Nat) : byB (nodeF l r) n := fun i _ => sha_by _ _ i
def leafF (x : Int) : Nat → Int := tagI "specie/leaf".toUTF8 (.int x)
def treF (h : Nat → Nat → Int) : Nat → Nat → Nat → Int
  | 0, i => h i
  | k + 1, i => nodeF (treF h k (2 * i)) (treF h k (2 * i + 1))
theorem tre_by {h : Nat → Nat → Int} {n : Nat} (hh : ∀ i, i < n → byB (h i) 32) : ∀ (k i : Nat), i * 2 ^ k + 2 ^ k ≤ n → byB (treF h k i) 32
  | 0, i, hi => hh i (by omega)
  | k + 1, i, _ => node_by _ _ 32
abbrev hsl (n : Nat) (h : Nat → Nat → Int) : AV := .isl 32 n fun i j => .int .u8 (h i j)
def twoF (l r : Nat → Int) (i : Nat) : Nat → Int := bif Nat.beq i 0 then l else r
def joinF (l r : Nat → Int) (x i : Nat) : Int := bif Nat.beq x 0 then 0 else catF l r i
theorem two_ent {os : List (Option Ob)} {f g : Nat → Nat → AV} {l r : Nat → Int} (hf : ∀ i, i < 32 → f i 0 = .int .u8 (l i)) (hg : ∀ i, i < 32 → g i 0 = .int .u8 (r i)) :
    Ent os (.isl 1 2 fun i k => atL (List.getD [[.isl 1 32 f], [.isl 1 32 g]] i []) k) (.isl 1 2 fun i _ => .isl 1 32 fun k _ => .int .u8 (twoF l r i k)) := by
  refine Ent.islE fun i j hi hj => ?_
  have : j = 0 := by omega
  subst this
  refine ⟨?_, .isl fun _ _ _ _ => .int⟩
  rcases i with _ | _ | i
  · exact Ent.isl fun a b ha hb => by
      have : b = 0 := by omega
      subst this; exact hf a ha
  · exact Ent.isl fun a b ha hb => by
      have : b = 0 := by omega
      subst this; exact hg a ha
  · omega
theorem join_step {l r : Nat → Int} {x i : Nat} (hx : x < 2) (hi : i < 32 * x + 32) : (bif Nat.blt i (32 * x) then joinF l r x i else twoF l r x (i - 32 * x)) = joinF l r (x + 1) i := by
  have : x = 0 ∨ x = 1 := by omega
  rcases this with rfl | rfl
  · rw [blt_f (by omega)]
    show l (i - 0) = catF l r i
    unfold catF
    rw [blt_t (by omega)]; rfl
  · by_cases h : i < 32
    · rw [blt_t (by omega)]; rfl
    · rw [blt_f (by omega)]
      show r (i - 32) = catF l r i
      unfold catF
      rw [blt_f (by omega)]; rfl

theorem join_all {l r : Nat → Int} {x i : Nat} (hx : x = 2) : joinF l r x i = catF l r i := by subst hx; rfl
theorem cat_lo {l r : Nat → Int} {i : Nat} (h : i < 32) : catF l r i = l i := by unfold catF; rw [blt_t h]; rfl
theorem cat_hi {l r : Nat → Int} {i : Nat} : catF l r (32 + i) = r i := by unfold catF; rw [blt_f (by omega), show 32 + i - 32 = i by omega]; rfl
theorem node_n {l r : Nat → Int} {n : Nat} (h : n = 64) : tagF "specie/node".toUTF8 n (catF l r) = nodeF l r := by subst h; rfl
def revI (m x i : Nat) : Nat := bif Nat.blt i x || Nat.ble (m - x) i then m - 1 - i else i
theorem rev_eq {os : List (Option Ob)} {m : Nat} {mu : Bool} (C : Nat → Nat) (F : Nat → Nat → Nat → Int) (σ τ : Nat → Nat) (h : ∀ i, i < m → σ i = τ i) : ObEnt os ⟨1, m, mu, .row fun i => [hsl (C (σ i)) (F (σ i))]⟩ ⟨1, m, mu, .row fun i => [hsl (C (τ i)) (F (τ i))]⟩ :=
  ⟨rfl, rfl, rfl, fun i j hi hj => Ent.of_eq (by
    have hi : i < m := hi
    show Am.atL [hsl (C (σ i)) (F (σ i))] j = Am.atL [hsl (C (τ i)) (F (τ i))] j
    rw [h i hi])⟩
theorem rev_0 {m i : Nat} (hi : i < m) : i = revI m 0 i := by
  unfold revI
  have h1 : Nat.ble (m - 0) i = false := by
    cases h : Nat.ble (m - 0) i with
    | false => rfl
    | true => rw [Nat.ble_eq] at h; omega
  rw [blt_f (Nat.zero_le i), h1]; rfl
theorem rev_all {m x i : Nat} (hx : ¬ x < m - 1 - x) (hx2 : x ≤ m / 2) (hi : i < m) : revI m x i = m - 1 - i := by
  unfold revI
  by_cases h : i < x
  · rw [blt_t h]; rfl
  · by_cases h' : m - x ≤ i
    · rw [show Nat.ble (m - x) i = true from by rw [Nat.ble_eq]; exact h', Bool.or_true]; rfl
    · have h2 : Nat.ble (m - x) i = false := by
        cases hb : Nat.ble (m - x) i with
        | false => rfl
        | true => rw [Nat.ble_eq] at hb; omega
      rw [blt_f (by omega), h2]
      show i = m - 1 - i
      omega
theorem rev_mid {m x i : Nat} (h1 : ¬ i < x) (h2 : ¬ m - x ≤ i) : revI m x i = i := by
  unfold revI
  have h2' : Nat.ble (m - x) i = false := by
    cases hb : Nat.ble (m - x) i with
    | false => rfl
    | true => rw [Nat.ble_eq] at hb; omega
  rw [blt_f (by omega), h2']; rfl
theorem rev_step {os : List (Option Ob)} {m x a b : Nat} (C : Nat → Nat) (F : Nat → Nat → Nat → Int) (ha : a = x) (hb : b = m - 1 - x) (hx : x < m - 1 - x) :
    ObEnt os ⟨1, m, true, .put b [hsl (C (revI m x a)) (F (revI m x a))] (.put a [hsl (C (revI m x b)) (F (revI m x b))] (.row fun i => [hsl (C (revI m x i)) (F (revI m x i))]))⟩ ⟨1, m, true, .row fun i => [hsl (C (revI m (x + 1) i)) (F (revI m (x + 1) i))]⟩ := by
  refine ⟨rfl, rfl, rfl, fun i j hi hj => Ent.of_eq ?_⟩
  have hi : i < m := hi
  show mixA (Nat.beq i b) (Am.atL [hsl (C (revI m x a)) (F (revI m x a))] j) (mixA (Nat.beq i a) (Am.atL [hsl (C (revI m x b)) (F (revI m x b))] j) (Am.atL [hsl (C (revI m x i)) (F (revI m x i))] j)) = Am.atL [hsl (C (revI m (x + 1) i)) (F (revI m (x + 1) i))] j
  have key : ∀ p q : Nat, p = q → Am.atL [hsl (C p) (F p)] j = Am.atL [hsl (C q) (F q)] j := fun p q e => by rw [e]
  by_cases h1 : i = b
  · rw [show Nat.beq i b = true by rw [h1]; exact Nat.beq_refl b, mixA_tt]
    refine key _ _ ?_
    rw [ha, rev_mid (by omega) (by omega)]
    unfold revI
    rw [show Nat.ble (m - (x + 1)) i = true from by rw [Nat.ble_eq]; omega, Bool.or_true]
    show x = m - 1 - i
    omega
  · rw [beq_f h1, mixA_ff]
    by_cases h2 : i = a
    · rw [show Nat.beq i a = true by rw [h2]; exact Nat.beq_refl a, mixA_tt]
      refine key _ _ ?_
      rw [hb, rev_mid (by omega) (by omega)]
      unfold revI
      rw [blt_t (show i < x + 1 by omega)]
      show m - 1 - x = m - 1 - i
      omega
    · rw [beq_f h2, mixA_ff]
      refine key _ _ ?_
      unfold revI
      have e1 : Nat.blt i x = Nat.blt i (x + 1) := by
        by_cases h : i < x
        · rw [blt_t h, blt_t (by omega)]
        · rw [blt_f (by omega), blt_f (by omega)]
      have e2 : Nat.ble (m - x) i = Nat.ble (m - (x + 1)) i := by
        rw [Bool.eq_iff_iff, Nat.ble_eq, Nat.ble_eq]
        omega
      rw [e1, e2]
theorem pow5 {d k : Nat} (hd : d ≤ 5) : 2 ^ (d - k) ≤ 32 := Nat.le_trans (Nat.pow_le_pow_right (by decide) (show d - k ≤ 5 by omega)) (by decide)
theorem pow_lt {d k : Nat} (h : ((2 ^ (d - k) : Nat) : Int) > 1) : k < d := by
  apply Classical.byContradiction
  intro hn
  rw [show d - k = 0 by omega] at h
  revert h; decide
theorem pow_eq {d k : Nat} (hk : k ≤ d) (h : ¬ ((2 ^ (d - k) : Nat) : Int) > 1) : k = d := by
  apply Classical.byContradiction
  intro hn
  apply h
  have : 2 ^ 1 ≤ 2 ^ (d - k) := Nat.pow_le_pow_right (by decide) (by omega)
  have h2 : (2 : Nat) ^ 1 = 2 := rfl
  rw [h2] at this
  generalize 2 ^ (d - k) = n at this
  omega
theorem pow_dbl {d k : Nat} (h : k < d) : 2 * 2 ^ (d - k - 1) = 2 ^ (d - k) := by
  rw [show d - k = (d - k - 1) + 1 by omega, Nat.pow_succ, Nat.mul_comm]
  congr 1
theorem pow_pos2 {k : Nat} : 1 ≤ 2 ^ k := Nat.pos_of_ne_zero (by simp)
def folF (h : Nat → Int) (i : Int) (P : Nat → Nat → Int) : Nat → Nat → Int
  | 0 => h
  | x + 1 => bif decide (i / 2 ^ x % 2 = 0) then nodeF (folF h i P x) (P x) else nodeF (P x) (folF h i P x)
theorem fol_by {h : Nat → Int} {i : Int} {P : Nat → Nat → Int} (hh : byB h 32) : ∀ x, byB (folF h i P x) 32
  | 0 => hh
  | x + 1 => by
    show byB (bif _ then _ else _) 32
    cases decide (i / 2 ^ x % 2 = 0) with
    | true => exact node_by _ _ 32
    | false => exact node_by _ _ 32
theorem shw_f : ∀ x : Fin 11, IntKind.wrap .i64 (1 * 2 ^ min x.1 64) = ((2 ^ x.1 : Nat) : Int) := by decide +kernel
theorem shw {x : Nat} (h : x ≤ 10) : IntKind.wrap .i64 (1 * 2 ^ min x 64) = ((2 ^ x : Nat) : Int) := shw_f ⟨x, by omega⟩
theorem pow_inj_f : ∀ d x : Fin 11, 2 ^ d.1 = 2 ^ x.1 → d.1 = x.1 := by decide +kernel
theorem pow_inj {d x : Nat} (hd : d ≤ 10) (hx : x ≤ 10) (h : 2 ^ d = 2 ^ x) : d = x := pow_inj_f ⟨d, by omega⟩ ⟨x, by omega⟩ h
theorem dep_t {d x : Nat} (hd : d ≤ 10) (hx : x ≤ 10) (g : ((2 ^ d : Nat) : Int) = IntKind.wrap .i64 (1 * 2 ^ min x 64)) : d = x := by
  rw [shw hx] at g
  exact pow_inj hd hx (Int.ofNat_inj.1 g)
theorem dep_f {d x : Nat} (hx : x ≤ 10) (g : ¬ ((2 ^ d : Nat) : Int) = IntKind.wrap .i64 (1 * 2 ^ min x 64)) : d ≠ x := fun e => g (by rw [shw hx, e])
theorem half_q {i : Int} {x : Nat} (hi : 0 ≤ i) : Int.tdiv (i / 2 ^ x) 2 = i / 2 ^ (x + 1) := by
  rw [Int.tdiv_eq_ediv_of_nonneg (Int.ediv_nonneg hi (Int.pow_nonneg (by decide))), Int.ediv_ediv_of_nonneg (Int.pow_nonneg (by decide)), Int.pow_succ]
theorem half_r {i : Int} {x : Nat} (hi : 0 ≤ i) : Int.tmod (i / 2 ^ x) 2 = i / 2 ^ x % 2 := by
  rw [Int.tmod_eq_emod_of_nonneg (Int.ediv_nonneg hi (Int.pow_nonneg (by decide)))]
theorem half_w {i : Int} {x : Nat} (hi : 0 ≤ i) (hi' : i < 9223372036854775807) : IntKind.wrap .i64 (Int.tdiv (i / 2 ^ x) 2) = i / 2 ^ (x + 1) := by
  rw [half_q hi]
  have h1 : 0 ≤ i / 2 ^ (x + 1) := Int.ediv_nonneg hi (Int.pow_nonneg (by decide))
  have h2 : i / 2 ^ (x + 1) ≤ i := Int.ediv_le_self _ hi
  exact wI (by omega) (by omega)
theorem fol_t {h : Nat → Int} {i : Int} {P : Nat → Nat → Int} {x : Nat} (hi : 0 ≤ i) (g : Int.tmod (i / 2 ^ x) 2 = 0) : nodeF (folF h i P x) (P x) = folF h i P (x + 1) := by
  rw [half_r hi] at g
  show _ = bif _ then _ else _
  rw [decide_eq_true g]; rfl
theorem fol_f {h : Nat → Int} {i : Int} {P : Nat → Nat → Int} {x : Nat} (hi : 0 ≤ i) (g : ¬ Int.tmod (i / 2 ^ x) 2 = 0) : nodeF (P x) (folF h i P x) = folF h i P (x + 1) := by
  rw [half_r hi] at g
  show _ = bif _ then _ else _
  rw [decide_eq_false g]; rfl
theorem fol_ob {os : List (Option Ob)} {u v G : Nat → Int} (e : v = G) :
    ObEnt os ⟨32, 1, true, .fn fun i j => .int .u8 (bif Nat.beq i 0 && (Nat.ble 0 j && Nat.blt j 32) then intOfAV (atL (u8c v) (j - 0)) else u j)⟩ ⟨32, 1, true, .fn fun _ j => .int .u8 (G j)⟩ := by
  subst e
  refine ⟨rfl, rfl, rfl, fun i j hi hj => Ent.of_eq (congrArg (AV.int .u8) ?_)⟩
  have : i = 0 := Nat.lt_one_iff.1 hi
  subst this
  rw [Nat.sub_zero, show (Nat.beq 0 0 && (Nat.ble 0 j && Nat.blt j 32)) = true by rw [blt_t hj, show Nat.ble 0 j = true from by rw [Nat.ble_eq]; exact Nat.zero_le j]; rfl, u8c_at hj]
  rfl
def eqF (f g : Nat → Int) : Nat → Nat → Bool
  | 0, _ => true
  | k + 1, s => (f s == g s) && eqF f g k (s + 1)
def hEq (f g : Nat → Int) : Bool := eqF f g 32 0
theorem grow_w {n : Nat} (hn : n ≤ 1000) : IntKind.wrap .i64 ((n : Int) - IntKind.wrap .i64 (0 - 0)) = n := by
  rw [show (0 - 0 : Int) = 0 by omega, wI (n := 0) (by omega) (by omega), wI (by omega) (by omega)]; omega
theorem zero_u8 {j : Nat} (hj : j < 1) : AV.int .u8 (intOfAV (atL (zcells (.int .u8 0)) j)) = .int .u8 0 := by
  have : j = 0 := by omega
  subst this; rfl

end Go.Sp

namespace Go.Proofs.YtdaaddkipdmajaaGreatDoor
open Go Go.Am Go.Sp
set_option maxRecDepth 100000

theorem grow_c (n : Nat) (h0 : 0 < n) (hn : n ≤ 1000) : Gives Tryz.prog gl0 272 [] [.nsl, .int .i64 n] (.osl 0 1 0 0) [some ⟨1, n, true, .fn fun _ _ => .int .u8 0⟩] := by
  have hw := grow_w hn
  refine gives_sk (own := ow0) (hand := true) Tryz.func272 (by kernel_rfl) mixed (by kernel_rfl)
    (let y0 : List (Option Ob) := [some ⟨1, n, true, Rep.fn fun (x x_1 : Nat) => Zb 0⟩]; (.br (decide ((↑n : Int) < 0)) .no (.br (decide (IntKind.wrap IntKind.i64 ((↑n : Int) - IntKind.wrap IntKind.i64 ((0 : Int) - 0)) > 0)) (.req ((0 : Int) ≤ 0 ∧ (0 : Int) ≤ (↑(0) : Int)) (.req ((0 : Int) < IntKind.wrap IntKind.i64 ((↑n : Int) - IntKind.wrap IntKind.i64 ((0 : Int) - 0)) ∧ IntKind.wrap IntKind.i64 ((↑n : Int) - IntKind.wrap IntKind.i64 ((0 : Int) - 0)) * (↑(1) : Int) ≤ 140737488355328) (.req ((0 : Int) ≤ 0 ∧ (0 : Int) ≤ (↑(Int.toNat (IntKind.wrap IntKind.i64 ((↑n : Int) - IntKind.wrap IntKind.i64 ((0 : Int) - 0)))) : Int)) (.out (AV.osl 0 1 0 0) ([some ⟨1, Int.toNat (IntKind.wrap IntKind.i64 ((↑n : Int) - IntKind.wrap IntKind.i64 ((0 : Int) - 0))), true, Rep.fn fun (i j : Nat) => Zb (intOfAV (atL (zcells (Value.int IntKind.u8 (0 : Int))) j))⟩]) (AV.osl 0 1 0 0) (y0))))) (.out (AV.nsl) ([]) (AV.osl 0 1 0 0) (y0)))))
    (by kernel_rfl) ?_
  refine k_br (fun h0 => ?_) (fun h0 => ?_)
  · have g0 := cnd_dec_t h0
    exact (show False from (by exfalso; omega))
  · have g0 := cnd_dec_f h0
    refine k_br (fun h2 => ?_) (fun h2 => ?_)
    · have g2 := cnd_dec_t h2
      refine k_req (by omega) ?_
      refine k_req (by omega) ?_
      refine k_req (by omega) ?_
      exact k_outg (by exact Ent.refl _) (by exact ⟨⟨rfl, by show Int.toNat _ = n; rw [hw]; rfl, rfl, fun i j _ hj => Ent.of_eq (zero_u8 hj)⟩, trivial⟩)
    · have g2 := cnd_dec_f h2
      exact k_outg (by (exfalso; rw [hw] at g2; omega)) (by (exfalso; rw [hw] at g2; omega))

def ow6 : FuncId → Option (List Bool) := fun f => bif Nat.beq f 272 then some [false, false] else none

theorem concat_c (l r : Nat → Int) : Pure Tryz.prog gl0 254 [.isl 1 2 fun i _ => .isl 1 32 fun k _ => .int .u8 (twoF l r i k)] (bys 64 (catF l r)) := by
  refine pure_sk (own := ow6) Tryz.func254 (by kernel_rfl) mixed (by kernel_rfl)
    (.loop ({ x : Nat // x ≤ 2 }) (fun (x : { x : Nat // x ≤ 2 }) => mkSt [0, 9, 10, 3, 11] [AV.isl 1 2 fun (i x : Nat) => AV.isl 1 32 fun (k x : Nat) => Zb (twoF l r i k), AV.isl 1 2 fun (i x : Nat) => AV.isl 1 32 fun (k x : Nat) => Zb (twoF l r i k), Zi (↑(2) : Int), Zi (↑(32 * x.1) : Int), Zi (↑(x.1) : Int)] []) (fun (x : { x : Nat // x ≤ 2 }) => 2 - x.1) (⟨0, Nat.zero_le 2⟩) ([0, 9, 10, 3, 11]) ([]) ([AV.isl 1 2 fun (i x : Nat) => AV.isl 1 32 fun (k x : Nat) => Zb (twoF l r i k), AV.isl 1 2 fun (i x : Nat) => AV.isl 1 32 fun (k x : Nat) => Zb (twoF l r i k), Zi (↑(2) : Int), Zi 0, Zi 0]) ([]) (fun x0 => (.br (decide ((↑x0.1 : Int) < (↑(2) : Int))) (.req ((0 : Int) ≤ (↑x0.1 : Int) ∧ (↑x0.1 : Int) < (↑(2) : Int)) (.br (decide (IntKind.wrap IntKind.i64 ((↑(32 * x0.1) : Int) + (↑(32) : Int)) < 0)) .no (.again (Again 0 (fun (x : { x : Nat // x ≤ 2 }) => mkSt [0, 9, 10, 3, 11] [AV.isl 1 2 fun (i x : Nat) => AV.isl 1 32 fun (k x : Nat) => Zb (twoF l r i k), AV.isl 1 2 fun (i x : Nat) => AV.isl 1 32 fun (k x : Nat) => Zb (twoF l r i k), Zi (↑(2) : Int), Zi (↑(32 * x.1) : Int), Zi (↑(x.1) : Int)] []) (fun (x : { x : Nat // x ≤ 2 }) => 2 - x.1) x0) ([0, 9, 10, 3, 11]) ([]) ([AV.isl 1 2 fun (i x : Nat) => AV.isl 1 32 fun (k x : Nat) => Zb (twoF l r i k), AV.isl 1 2 fun (i x : Nat) => AV.isl 1 32 fun (k x : Nat) => Zb (twoF l r i k), Zi (↑(2) : Int), Zi (IntKind.wrap IntKind.i64 ((↑(32 * x0.1) : Int) + (↑(32) : Int))), Zi (IntKind.wrap IntKind.i64 ((↑x0.1 : Int) + 1))]) ([])))) (.gc 272 ([]) ([AV.nsl, Zi (↑(32 * x0.1) : Int)]) (AV.osl 0 1 0 0) ([some ⟨1, 32 * x0.1, true, Rep.fn fun (x x_1 : Nat) => Zb 0⟩]) (.loop ({ x : Nat // x ≤ 2 }) (fun (x : { x : Nat // x ≤ 2 }) => mkSt [25, 26, 6, 27] [AV.isl 1 2 fun (i x : Nat) => AV.isl 1 32 fun (k x : Nat) => Zb (twoF l r i k), Zi (↑(2) : Int), AV.osl 0 1 0 (32 * x.1), Zi (↑(x.1) : Int)] [some ⟨1, bif Nat.beq (x.1) 0 then 64 else 32 * x.1, true, Rep.fn fun (i x_1 : Nat) => Zb (joinF l r (x.1) i)⟩]) (fun (x : { x : Nat // x ≤ 2 }) => 2 - x.1) (⟨0, Nat.zero_le 2⟩) ([25, 26, 6, 27]) ([16]) ([AV.isl 1 2 fun (i x : Nat) => AV.isl 1 32 fun (k x : Nat) => Zb (twoF l r i k), Zi (↑(2) : Int), AV.osl 0 1 0 0, Zi 0]) ([some ⟨1, 32 * x0.1, true, Rep.fn fun (i j : Nat) => Zb 0⟩]) (fun x7 => (.br (decide ((↑x7.1 : Int) < (↑(2) : Int))) (.req ((0 : Int) ≤ (↑x7.1 : Int) ∧ (↑x7.1 : Int) < (↑(2) : Int)) (.req ((32 * x7.1 + 32) * 1 ≤ 140737488355328) (.again (Again 0 (fun (x : { x : Nat // x ≤ 2 }) => mkSt [25, 26, 6, 27] [AV.isl 1 2 fun (i x : Nat) => AV.isl 1 32 fun (k x : Nat) => Zb (twoF l r i k), Zi (↑(2) : Int), AV.osl 0 1 0 (32 * x.1), Zi (↑(x.1) : Int)] [some ⟨1, bif Nat.beq (x.1) 0 then 64 else 32 * x.1, true, Rep.fn fun (i x_1 : Nat) => Zb (joinF l r (x.1) i)⟩]) (fun (x : { x : Nat // x ≤ 2 }) => 2 - x.1) x7) ([25, 26, 6, 27]) ([49]) ([AV.isl 1 2 fun (i x : Nat) => AV.isl 1 32 fun (k x : Nat) => Zb (twoF l r i k), Zi (↑(2) : Int), AV.osl 0 1 0 (32 * x7.1 + 32), Zi (IntKind.wrap IntKind.i64 ((↑x7.1 : Int) + 1))]) ([some ⟨1, 32 * x7.1 + 32, true, Rep.fn fun (i j : Nat) => Zb (bif Nat.blt i (32 * x7.1) then joinF l r x7.1 i else twoF l r (Int.toNat (↑x7.1 : Int)) (i - 32 * x7.1))⟩])))) (.out (AV.isl 1 (32 * x7.1) fun (r_1 k : Nat) => Zb (joinF l r x7.1 (r_1 + 0))) [] (bys 64 (catF l r)) []))))))))
    (by kernel_rfl) ?_
  refine k_loop (fun _ hs => hs.le (by repeat' (first | exact trivial | (first | exact Ent.refl _ | exact inc_ent (by omega) | exact Ent.nil rfl | exact Ent.of_eq (congrArg (AV.osl _ _ _) (by first | omega | (dsimp only; omega))) | exact Ent.of_eq (congrArg (AV.int _) (by first | omega | (dsimp only; omega)))) | refine And.intro ?_ ?_)) (trivial)) (fun x0 => ?_)
  try (have q0 := x0.2; dsimp only at q0)
  refine k_br (fun h1 => ?_) (fun h1 => ?_)
  · have g1 := cnd_dec_t h1
    refine k_req (by omega) ?_
    refine k_br (fun h3 => ?_) (fun h3 => ?_)
    · have g3 := cnd_dec_t h3
      exact (show False from (by exfalso; rw [wI (by omega) (by omega)] at g3; omega))
    · have g3 := cnd_dec_f h3
      exact k_again (⟨x0.1 + 1, by omega⟩) (fun _ hs => hs.le (by repeat' (first | exact trivial | (first | exact Ent.refl _ | exact inc_ent (by omega) | exact Ent.nil rfl | exact Ent.of_eq (congrArg (AV.osl _ _ _) (by first | omega | (dsimp only; omega))) | exact Ent.of_eq (congrArg (AV.int _) (by first | omega | (dsimp only; omega)))) | refine And.intro ?_ ?_)) (trivial)) (by (dsimp only; omega))
  · have g1 := cnd_dec_f h1
    refine k_gc (grow_c (32 * x0.1) (by omega) (by omega)) ?_
    refine k_loop (fun _ hs => hs.le (by repeat' (first | exact trivial | (first | exact Ent.refl _ | exact inc_ent (by omega) | exact Ent.nil rfl | exact Ent.of_eq (congrArg (AV.osl _ _ _) (by first | omega | (dsimp only; omega))) | exact Ent.of_eq (congrArg (AV.int _) (by first | omega | (dsimp only; omega)))) | refine And.intro ?_ ?_)) (by exact ⟨⟨rfl, by show 32 * x0.1 = 64; omega, rfl, fun i j _ _ => Ent.refl _⟩, trivial⟩)) (fun x7 => ?_)
    try (have q7 := x7.2; dsimp only at q7)
    refine k_br (fun h8 => ?_) (fun h8 => ?_)
    · have g8 := cnd_dec_t h8
      refine k_req (by omega) ?_
      refine k_req (by omega) ?_
      exact k_again (⟨x7.1 + 1, by omega⟩) (fun _ hs => hs.le (by repeat' (first | exact trivial | (first | exact Ent.refl _ | exact inc_ent (by omega) | exact Ent.nil rfl | exact Ent.of_eq (congrArg (AV.osl _ _ _) (by first | omega | (dsimp only; omega))) | exact Ent.of_eq (congrArg (AV.int _) (by first | omega | (dsimp only; omega)))) | refine And.intro ?_ ?_)) (by exact ⟨⟨rfl, rfl, rfl, fun i j hi hj => Ent.of_eq (congrArg _ (join_step (by omega) hi))⟩, trivial⟩)) (by (dsimp only; omega))
    · have g8 := cnd_dec_f h8
      exact k_out (Ent.islN (by omega) (fun i j hi hj => congrArg _ (join_all (by omega))))

theorem inner_c (l r : Nat → Int) (hl : byB l 32) (hr : byB r 32) : Pure Tryz.prog gl0 217 [.agg (u8c l), .agg (u8c r)] (.agg (u8c (nodeF l r))) := by
  have hc := (concat_c l r).via (args := [_]) ⟨two_ent (f := fun i x => .int .u8 (intOfAV (atL (u8c l) (0 + (0 + i))))) (g := fun i x => .int .u8 (intOfAV (atL (u8c r) (0 + (0 + i))))) (fun i hi => by rw [Nat.zero_add, Nat.zero_add, u8c_at hi]) (fun i hi => by rw [Nat.zero_add, Nat.zero_add, u8c_at hi]), trivial⟩
  have ht := tagged_c "specie/node".toUTF8 (by decide) (by decide) (catF l r) 64 (by decide) (cat_by hl hr)
  refine pure_sk (own := ow0) Tryz.func217 (by kernel_rfl) mixed (by kernel_rfl)
    (.dc (true) 254 ([AV.isl 1 2 fun (r_1 k : Nat) => atL (List.getD [[AV.isl 1 32 fun (r x : Nat) => Zb (intOfAV (atL (u8c l) (0 + (0 + r))))], [AV.isl 1 32 fun (r_2 x : Nat) => Zb (intOfAV (atL (u8c r) (0 + (0 + r_2))))]] (r_1 + 0) []) k]) (bys 64 (catF l r)) (.sc (true) 149 ([AV.str { data := #[(115 : UInt8), (112 : UInt8), (101 : UInt8), (99 : UInt8), (105 : UInt8), (101 : UInt8), (47 : UInt8), (110 : UInt8), (111 : UInt8), (100 : UInt8), (101 : UInt8)] }, AV.isl 1 64 fun (i x : Nat) => Zb (catF l r i)]) (AV.tup [AV.agg (u8c (tagF (String.toUTF8 "specie/node") 64 (catF l r))), Zi 0]) (.out (AV.agg (u8c (tagF (String.toUTF8 "specie/node") 64 (catF l r)))) [] (AV.agg (u8c (nodeF l r))) [])))
    (by kernel_rfl) ?_
  refine k_dc (hc) ?_
  refine k_sc (ht) ?_
  exact k_out (Ent.refl _)

theorem rinner_c (l r : Nat → Int) (hl : byB l 32) (hr : byB r 32) : Pure Tryz.prog gl0 156 [.agg (u8c l), .agg (u8c r)] (.agg (u8c (nodeF l r))) := by
  refine pure_sk (own := ow0) Tryz.func156 (by kernel_rfl) mixed (by kernel_rfl)
    (let y0 : List AV := [Zb 0, Zb 0, Zb 0, Zb 0, Zb 0, Zb 0, Zb 0, Zb 0, Zb 0, Zb 0, Zb 0, Zb 0, Zb 0, Zb 0, Zb 0, Zb 0, Zb 0, Zb 0, Zb 0, Zb 0, Zb 0, Zb 0, Zb 0, Zb 0, Zb 0, Zb 0, Zb 0, Zb 0, Zb 0, Zb 0, Zb 0, Zb 0]; (.loop ({ x : Nat // x ≤ 32 }) (fun (x : { x : Nat // x ≤ 32 }) => mkSt [2, 3, 4, 5, 6] [AV.own 0 32 0 0 32, AV.own 1 32 0 0 32, AV.own 2 32 0 0 32, AV.osl 3 1 0 (x.1), Zi (↑(x.1) : Int)] [some ⟨32, 1, true, Rep.lst [u8c l]⟩, some ⟨32, 1, true, Rep.lst [u8c r]⟩, some ⟨32, 1, true, Rep.lst [y0]⟩, some ⟨1, x.1, true, Rep.fn fun (i x : Nat) => Zb (catF l r i)⟩]) (fun (x : { x : Nat // x ≤ 32 }) => 32 - x.1) (⟨0, Nat.zero_le 32⟩) ([2, 3, 4, 5, 6]) ([0, 8, 16, 299]) ([AV.own 0 32 0 0 32, AV.own 1 32 0 0 32, AV.own 2 32 0 0 32, AV.nsl, Zi 0]) ([some ⟨32, 1, true, Rep.lst [u8c l]⟩, some ⟨32, 1, true, Rep.lst [u8c r]⟩, some ⟨32, 1, true, Rep.lst [y0]⟩, some ⟨1, 0, true, Rep.lst []⟩]) (fun x0 => (.br (decide ((↑x0.1 : Int) < 32)) (.req ((0 : Int) ≤ (↑x0.1 : Int) ∧ (↑x0.1 : Int) < (↑(32) : Int)) (.req ((x0.1 + 1) * 1 ≤ 140737488355328) (.again (Again 0 (fun (x : { x : Nat // x ≤ 32 }) => mkSt [2, 3, 4, 5, 6] [AV.own 0 32 0 0 32, AV.own 1 32 0 0 32, AV.own 2 32 0 0 32, AV.osl 3 1 0 (x.1), Zi (↑(x.1) : Int)] [some ⟨32, 1, true, Rep.lst [u8c l]⟩, some ⟨32, 1, true, Rep.lst [u8c r]⟩, some ⟨32, 1, true, Rep.lst [y0]⟩, some ⟨1, x.1, true, Rep.fn fun (i x : Nat) => Zb (catF l r i)⟩]) (fun (x : { x : Nat // x ≤ 32 }) => 32 - x.1) x0) ([2, 3, 4, 5, 6]) ([0, 1, 2, 60]) ([AV.own 0 32 0 0 32, AV.own 1 32 0 0 32, AV.own 2 32 0 0 32, AV.osl 3 1 0 (x0.1 + 1), Zi (IntKind.wrap IntKind.i64 ((↑x0.1 : Int) + 1))]) ([some ⟨32, 1, true, Rep.lst [u8c l]⟩, some ⟨32, 1, true, Rep.lst [u8c r]⟩, some ⟨32, 1, true, Rep.lst [y0]⟩, some ⟨1, x0.1 + 1, true, Rep.fn fun (i j : Nat) => Zb (bif Nat.blt i x0.1 then catF l r i else intOfAV (atL [Zb (intOfAV (Rep.at (Ob.f (Ob.seen ⟨32, 1, true, Rep.lst [u8c l]⟩)) 0 (0 + Int.toNat (↑(x0.1) : Int))))] j))⟩])))) (.loop ({ x : Nat // x ≤ 32 }) (fun (x : { x : Nat // x ≤ 32 }) => mkSt [3, 4, 5, 7] [AV.own 0 32 0 0 32, AV.own 1 32 0 0 32, AV.osl 2 1 0 (32 + x.1), Zi (↑(x.1) : Int)] [some ⟨32, 1, true, Rep.lst [u8c r]⟩, some ⟨32, 1, true, Rep.lst [y0]⟩, some ⟨1, 32 + x.1, true, Rep.fn fun (i x : Nat) => Zb (catF l r i)⟩]) (fun (x : { x : Nat // x ≤ 32 }) => 32 - x.1) (⟨0, Nat.zero_le 32⟩) ([3, 4, 5, 7]) ([1, 2, 3]) ([AV.own 0 32 0 0 32, AV.own 1 32 0 0 32, AV.osl 2 1 0 x0.1, Zi 0]) ([some ⟨32, 1, true, Rep.lst [u8c r]⟩, some ⟨32, 1, true, Rep.lst [y0]⟩, some ⟨1, x0.1, true, Rep.fn fun (i j : Nat) => Zb (catF l r i)⟩]) (fun x5 => (.br (decide ((↑x5.1 : Int) < 32)) (.req ((0 : Int) ≤ (↑x5.1 : Int) ∧ (↑x5.1 : Int) < (↑(32) : Int)) (.req ((32 + x5.1 + 1) * 1 ≤ 140737488355328) (.again (Again 0 (fun (x : { x : Nat // x ≤ 32 }) => mkSt [3, 4, 5, 7] [AV.own 0 32 0 0 32, AV.own 1 32 0 0 32, AV.osl 2 1 0 (32 + x.1), Zi (↑(x.1) : Int)] [some ⟨32, 1, true, Rep.lst [u8c r]⟩, some ⟨32, 1, true, Rep.lst [y0]⟩, some ⟨1, 32 + x.1, true, Rep.fn fun (i x : Nat) => Zb (catF l r i)⟩]) (fun (x : { x : Nat // x ≤ 32 }) => 32 - x.1) x5) ([3, 4, 5, 7]) ([0, 1, 59]) ([AV.own 0 32 0 0 32, AV.own 1 32 0 0 32, AV.osl 2 1 0 (32 + x5.1 + 1), Zi (IntKind.wrap IntKind.i64 ((↑x5.1 : Int) + 1))]) ([some ⟨32, 1, true, Rep.lst [u8c r]⟩, some ⟨32, 1, true, Rep.lst [y0]⟩, some ⟨1, 32 + x5.1 + 1, true, Rep.fn fun (i j : Nat) => Zb (bif Nat.blt i (32 + x5.1) then catF l r i else intOfAV (atL [Zb (intOfAV (Rep.at (Ob.f (Ob.seen ⟨32, 1, true, Rep.lst [u8c r]⟩)) 0 (0 + Int.toNat (↑(x5.1) : Int))))] j))⟩])))) (.sc (true) 123 ([AV.str { data := #[(115 : UInt8), (112 : UInt8), (101 : UInt8), (99 : UInt8), (105 : UInt8), (101 : UInt8), (47 : UInt8), (110 : UInt8), (111 : UInt8), (100 : UInt8), (101 : UInt8)] }, AV.isl 1 (32 + x5.1) fun (r_1 k : Nat) => Zb (catF l r (r_1 + 0))]) (AV.agg (u8c (tagF (String.toUTF8 "specie/node") (32 + x5.1) (catF l r)))) (.out (AV.agg (u8c (tagF (String.toUTF8 "specie/node") (32 + x5.1) (catF l r)))) [] (AV.agg (u8c (nodeF l r))) [])))))))))
    (by kernel_rfl) ?_
  refine k_loop (fun _ hs => hs.le (by repeat' (first | exact trivial | (first | exact Ent.refl _ | exact inc_ent (by omega) | exact Ent.nil rfl | exact Ent.of_eq (congrArg (AV.osl _ _ _) (by first | omega | (dsimp only; omega))) | exact Ent.of_eq (congrArg (AV.int _) (by first | omega | (dsimp only; omega)))) | refine And.intro ?_ ?_)) (by repeat' (first | exact trivial | (first | exact ObEnt.refl _ | exact ObEnt.junk | exact ObEnt.zero | exact ObEnt.push rfl rfl | exact ObEnt.pushRow rfl | exact ObEnt.len (by omega) | exact ObEnt.row (by repeat' (first | exact trivial | (first | exact Ent.refl _ | exact inc_ent (by omega) | exact Ent.nil rfl | exact Ent.of_eq (congrArg (AV.osl _ _ _) (by first | omega | (dsimp only; omega))) | exact Ent.of_eq (congrArg (AV.int _) (by first | omega | (dsimp only; omega)))) | refine And.intro ?_ ?_))) | refine And.intro ?_ ?_))) (fun x0 => ?_)
  try (have q0 := x0.2; dsimp only at q0)
  refine k_br (fun h1 => ?_) (fun h1 => ?_)
  · have g1 := cnd_dec_t h1
    refine k_req (by omega) ?_
    refine k_req (by omega) ?_
    exact k_again (⟨x0.1 + 1, by omega⟩) (fun _ hs => hs.le (by repeat' (first | exact trivial | (first | exact Ent.refl _ | exact inc_ent (by omega) | exact Ent.nil rfl | exact Ent.of_eq (congrArg (AV.osl _ _ _) (by first | omega | (dsimp only; omega))) | exact Ent.of_eq (congrArg (AV.int _) (by first | omega | (dsimp only; omega)))) | refine And.intro ?_ ?_)) (⟨by exact ObEnt.refl _, by exact ObEnt.refl _, by exact ObEnt.refl _, ObEnt.pushF (F := catF l r) (by dsimp only) (by show intOfAV (atL (u8c l) (0 + x0.1)) = catF l r x0.1; rw [Nat.zero_add, u8c_at (by omega), cat_lo (by omega)]), trivial⟩)) (by (dsimp only; omega))
  · have g1 := cnd_dec_f h1
    refine k_loop (fun _ hs => hs.le (by repeat' (first | exact trivial | (first | exact Ent.refl _ | exact inc_ent (by omega) | exact Ent.nil rfl | exact Ent.of_eq (congrArg (AV.osl _ _ _) (by (dsimp only; omega))) | exact Ent.of_eq (congrArg (AV.int _) (by first | omega | (dsimp only; omega)))) | refine And.intro ?_ ?_)) (⟨by exact ObEnt.refl _, by exact ObEnt.refl _, ⟨rfl, by show x0.1 = 32 + 0; omega, rfl, fun _ _ _ _ => Ent.refl _⟩, trivial⟩)) (fun x5 => ?_)
    try (have q5 := x5.2; dsimp only at q5)
    refine k_br (fun h6 => ?_) (fun h6 => ?_)
    · have g6 := cnd_dec_t h6
      refine k_req (by omega) ?_
      refine k_req (by omega) ?_
      exact k_again (⟨x5.1 + 1, by omega⟩) (fun _ hs => hs.le (by repeat' (first | exact trivial | (first | exact Ent.refl _ | exact inc_ent (by omega) | exact Ent.nil rfl | exact Ent.of_eq (congrArg (AV.osl _ _ _) (by first | omega | (dsimp only; omega))) | exact Ent.of_eq (congrArg (AV.int _) (by first | omega | (dsimp only; omega)))) | refine And.intro ?_ ?_)) (⟨by exact ObEnt.refl _, by exact ObEnt.refl _, ObEnt.pushF (F := catF l r) (by dsimp only; omega) (by show intOfAV (atL (u8c r) (0 + x5.1)) = catF l r (32 + x5.1); rw [Nat.zero_add, u8c_at (by omega), cat_hi]), trivial⟩)) (by (dsimp only; omega))
    · have g6 := cnd_dec_f h6
      refine k_sc ((rtagged_c (String.toUTF8 "specie/node") (of_decide_eq_true (id (Eq.refl true))) (catF l r)) (32 + x5.1) (by omega) (by exact by_congr (fun i => rfl) (by rw [show 32 + x5.1 = 64 by omega]; exact cat_by hl hr))) ?_
      exact k_out (Ent.of_eq (congrArg (fun t => AV.agg (u8c t)) (node_n (by omega))))

end Go.Proofs.YtdaaddkipdmajaaGreatDoor

namespace Go.Am
open Go.RowKit

def keepsOps (pins : List Nat) (ops : Array Oper) : Bool :=
  ops.toList.all fun o => (match o.op with | .defer _ => false | _ => true) && (match o.dst with | some d => !memN pins d | none => true)
def keepsC (pins : List Nat) : Code → Bool
  | .skip => true
  | .region _ ops _ => keepsOps pins ops
  | .seq x y => keepsC pins x && keepsC pins y
  | .cond _ x y => keepsC pins x && keepsC pins y
  | .block _ x => keepsC pins x
  | _ => false

def PinIn (pins : List Nat) (a0 a : Act) : Prop := ∀ n, n ∈ pins → a.tmps.getD n undef = a0.tmps.getD n undef

section
def Open (F : Fence) : Prop := F = Fence.wide ∨ ∃ l, F = Fence.wide.inRound l
theorem Open.calls {F : Fence} (h : Open F) {n : Nat} {P : Program} {f : FuncId} {args : Array Value} {w : World} {R : Ending → World → Prop} (hc : Calls P f args w R) : CallsIn F n P f args w R := by
  rcases h with rfl | ⟨l, rfl⟩
  · exact callsIn_wide.2 hc
  · exact CallsIn.inRound l (callsIn_wide.2 hc)
theorem Open.fn {F : Fence} (h : Open F) (f : FuncId) : F.fn f := by rcases h with rfl | ⟨l, rfl⟩ <;> trivial
theorem Open.deep {F : Fence} (h : Open F) : ¬ F.depth.isSome = true := by rcases h with rfl | ⟨l, rfl⟩ <;> (intro h; cases h)
theorem Open.steps {F : Fence} (h : Open F) {P : Program} {m m' : Machine} (hs : Steps P m m') : StepsIn (Machine.fenced P F) P m m' := by rcases h with rfl | ⟨l, rfl⟩ <;> exact stepsIn_wide.2 hs

variable {P : Program} {ops : Array Oper} {Q Q' : Exit → Act → World → Prop} {F : Fence} {n : Nat} {pins : List Nat} {a0 : Act}

theorem upon_in (hF : Open F) {o : Oper} {a : Act} {K K' : Act → World → Prop} (hp : ∀ ch a w, ¬ Q (.panic ch) a w) (hO : ¬ LetsOut Q) (hK : ∀ a' w', (∃ v, a'.tmps = (a.put o.dst v).tmps) → K a' w' → K' a' w') : ∀ (r : Result Next), o.upon P a K Q r → o.uponIn F n P a K' Q' r := by
  intro r h
  cases r with
  | ok x w' =>
    cases x <;> simp only [Oper.upon] at h <;> simp only [Oper.uponIn]
    case value v => exact hK _ _ ⟨v, rfl⟩ h
    case skip => exact hK _ _ ⟨undef, rfl⟩ h
    case defer d => exact hK _ _ ⟨undef, by cases o.dst <;> rfl⟩ h
    case enter f args =>
      refine ⟨fun h => (hF.deep h).elim, hF.calls (h.mono fun e w'' he => ?_)⟩
      cases e with
      | returned v => exact hK _ _ ⟨v, rfl⟩ he
      | panicked ch => exact (hp _ _ _ he).elim
      | outgrown => exact (hO he).elim
    case row row args =>
      refine ⟨fun h => (hF.deep h).elim, fun c cs _ => ?_⟩
      obtain ⟨v, w'', hr, hs⟩ := h c cs
      exact ⟨v, w'', hK _ _ ⟨v, rfl⟩ hr, hF.steps hs⟩
  | halt x w' =>
    cases x <;> simp only [Oper.upon] at h
    exact (hp _ _ _ h).elim

theorem op_in (hF : Open F) {o : Oper} {a : Act} {w : World} {K K' : Act → World → Prop} (hd : ∀ c, o.op ≠ .defer c) (hp : ∀ ch a w, ¬ Q (.panic ch) a w) (hO : ¬ LetsOut Q) (hK : ∀ a' w', (∃ v, a'.tmps = (a.put o.dst v).tmps) → K a' w' → K' a' w')
    (h : o.wp P a w K Q) : o.wpIn F n P a w K' Q' := by
  refine ⟨fun f _ => hF.fn f, ?_⟩
  rw [Oper.semAt_eq _ _ _ hd]
  exact upon_in hF hp hO hK _ h

theorem keeps_at {i : Nat} {o : Oper} (hk : keepsOps pins ops = true) (ho : ops[i]? = some o) : (∀ c, o.op ≠ .defer c) ∧ ∀ n, n ∈ pins → o.dst ≠ some n := by
  have hm : o ∈ ops.toList := by
    obtain ⟨h1, h2⟩ := Array.getElem?_eq_some_iff.1 ho
    rw [← h2]; simp
  have := List.all_eq_true.1 hk o hm
  rw [Bool.and_eq_true] at this
  obtain ⟨h1, h2⟩ := this
  refine ⟨fun c e => (by rw [e] at h1; cases h1), fun n hn e => ?_⟩
  rw [e] at h2
  simp only [Bool.not_eq_true'] at h2
  rw [memN_iff.2 hn] at h2
  cases h2

theorem pinned_put {o : Oper} {a a' : Act} {v : Value} (hd : ∀ n, n ∈ pins → o.dst ≠ some n) (h : PinIn pins a0 a) (e : a'.tmps = (a.put o.dst v).tmps) : PinIn pins a0 a' := fun n hn => by
  rw [e, ← h n hn]
  cases hdd : o.dst with
  | none => rfl
  | some d => exact getD_put_ne (fun e => hd n hn (by rw [hdd, e]))

theorem ops_in (hF : Open F) (hk : keepsOps pins ops = true) (hp : ∀ ch a w, ¬ Q (.panic ch) a w) (hO : ¬ LetsOut Q) : ∀ (is : List Nat) (a : Act) (w : World), wpOps P ops Q is a w → PinIn pins a0 a →
    wpOpsIn F n P ops (fun e a w => Q e a w ∧ PinIn pins a0 a) is a w := by
  intro is
  induction is with
  | nil => intro a w h hpin; exact ⟨h, hpin⟩
  | cons i rest ih =>
    intro a w h hpin
    simp only [wpOps] at h
    simp only [wpOpsIn]
    cases ho : ops[i]? with
    | none => simp only [ho] at h ⊢; exact ih a w h hpin
    | some o =>
      simp only [ho] at h ⊢
      obtain ⟨h1, h2⟩ := keeps_at hk ho
      by_cases hw : Region.wanted o (yielded ops a.tmps) = true
      · simp only [hw, if_true] at h ⊢
        rcases h with h | h
        · exact op_in hF h1 hp hO (fun a' w' hv hh => let ⟨v, e⟩ := hv; ih a' w' hh (pinned_put h2 hpin e)) h
        · exact (hO h.2).elim
      · simp only [hw, if_false, Bool.false_eq_true] at h ⊢
        exact ⟨fun f _ => hF.fn f, ih _ _ h (pinned_put h2 hpin rfl)⟩

theorem any_in (hF : Open F) (hk : keepsOps pins ops = true) (hp : ∀ ch a w, ¬ Q (.panic ch) a w) (hO : ¬ LetsOut Q) {md : Region.Mode} : ∀ (fuel : Nat) (listed : Array Bool) (a : Act) (w : World), wpAny P md ops Q fuel listed a w → PinIn pins a0 a →
    wpAnyIn F n P md ops (fun e a w => Q e a w ∧ PinIn pins a0 a) fuel listed a w := by
  intro fuel
  induction fuel with
  | zero => intro listed a w h hpin; exact ⟨h.1, h.2, hpin⟩
  | succ fuel ih =>
    intro listed a w h hpin
    refine ⟨fun hr => ⟨h.1 hr, hpin⟩, fun i hi => ?_⟩
    have := h.2 i hi
    unfold wpOp at this
    unfold wpOpIn
    cases ho : ops[i]? with
    | none => simp only [ho] at this ⊢; exact ih _ a w this hpin
    | some o =>
      simp only [ho] at this ⊢
      obtain ⟨h1, h2⟩ := keeps_at hk ho
      by_cases hw : Region.wanted o (yielded ops a.tmps) = true
      · simp only [hw, if_true] at this ⊢
        rcases this with h | h
        · exact op_in hF h1 hp hO (fun a' w' hv hh => let ⟨v, e⟩ := hv; ih _ a' w' hh (pinned_put h2 hpin e)) h
        · exact (hO h.2).elim
      · simp only [hw, if_false, Bool.false_eq_true] at this ⊢
        exact ⟨fun f _ => hF.fn f, ih _ _ _ this (pinned_put h2 hpin rfl)⟩
end

theorem uponIn_in {P : Program} {F : Fence} {n : Nat} {Q Q' : Exit → Act → World → Prop} {o : Oper} {a : Act} {K K' : Act → World → Prop} (hp : ∀ ch a w, ¬ Q (.panic ch) a w) (hO : ¬ LetsOut Q) (hK : ∀ a' w', K a' w' → K' a' w') : ∀ (r : Result Next), o.uponIn F n P a K Q r → o.uponIn F n P a K' Q' r := by
  intro r h
  cases r with
  | ok x w' =>
    cases x <;> simp only [Oper.uponIn] at h ⊢
    case value v => exact hK _ _ h
    case skip => exact hK _ _ h
    case defer d => exact hK _ _ h
    case enter f args => exact ⟨h.1, h.2.mono fun e w'' he => by
      cases e with
      | returned v => exact hK _ _ he
      | panicked ch => exact (hp _ _ _ he).elim
      | outgrown => exact (hO he).elim⟩
    case row row args => exact ⟨h.1, h.2.mono fun v w'' he => hK _ _ he⟩
    case round l f tmps x y => exact ⟨h.1, h.2.mono fun e w'' he => by
      cases e with
      | returned v => exact hK _ _ he
      | panicked ch => exact (hp _ _ _ he).elim
      | outgrown => exact (hO he).elim⟩
  | halt x w' =>
    cases x <;> simp only [Oper.uponIn] at h
    exact (hp _ _ _ h).elim

theorem opsIn_pre {P : Program} {F : Fence} {n : Nat} {ops ops' : Array Oper} {m : Nat} {X : Act → World → Prop} {Q : Exit → Act → World → Prop} {rest : List Nat} (hops : ∀ i, i < m → ops'[i]? = ops[i]?) (hg : ∀ i o, i < m → ops[i]? = some o → o.guard = none)
    (hX : ∀ a w, X a w → wpOpsIn F n P ops Q rest a w) : ∀ (l : List Nat), (∀ i, i ∈ l → i < m) → ∀ (a : Act) (w : World), wpOpsIn F n P ops' (fun e a w => (e = .normal ∧ X a w)) l a w → wpOpsIn F n P ops Q (l ++ rest) a w := by
  intro l
  induction l with
  | nil => intro _ a w h; exact hX a w h.2
  | cons i l ih =>
    intro hl a w h
    have hi := hl i (List.mem_cons_self ..)
    rw [List.cons_append]
    simp only [wpOpsIn] at h ⊢
    rw [hops i hi] at h
    cases ho : ops[i]? with
    | none => simp only [ho] at h ⊢; exact ih (fun k hk => hl k (List.mem_cons_of_mem _ hk)) a w h
    | some o =>
      simp only [ho] at h ⊢
      have hw : ∀ ys, Region.wanted o ys = true := fun ys => by simp [Region.wanted, hg i o hi ho]
      simp only [hw, if_true] at h ⊢
      exact ⟨h.1, uponIn_in (fun _ _ _ h => by cases h.1) (fun ⟨_, _, h⟩ => by cases h.1) (fun a' w' h' => ih (fun k hk => hl k (List.mem_cons_of_mem _ hk)) a' w' h') _ h.2⟩

theorem final_no_panic {K : Ctx} {C : Cfg} {k : AExit → ASt → Tree} : ∀ ch a w, ¬ Final K C k (.panic ch) a w := fun ch a w ⟨_, _, _, h, _⟩ => by cases h
theorem final_no_out {K : Ctx} {C : Cfg} {k : AExit → ASt → Tree} : ¬ LetsOut (Final K C k) := fun ⟨_, _, _, _, _, h, _⟩ => by cases h

theorem runsIn {K : Ctx} {C : Cfg} {pins : List Nat} {a0 : Act} {F : Fence} {n : Nat} (hF : Open F) (hP : C.P = K.P) (hgl : C.gl = K.gl) (hnt : C.nt = K.nt) (hm : K.P.follows .mixedOrders = true) (x : Code) :
    ∀ (k : AExit → ASt → Tree) (s : ASt) (β : Book) (a : Act) (w : World), keepsC pins x = true → (run C x k s).wp C.P C.gl (Le C.ng) → Sim K β s a w → PinIn pins a0 a →
      x.wpIn F n K.P (fun e a w => Final K C k e a w ∧ PinIn pins a0 a) a w := by
  induction x with
  | skip => intro k s β a w _ h hs hp; exact wpIn_skip ⟨⟨β, s, .normal, rfl, hs, h⟩, hp⟩
  | region id ops draw =>
    intro k s β a w hk h hs hp
    simp only [run] at h
    cases hd : dstsOk ops with
    | false => simp only [hd, cond_false] at h; exact h.elim
    | true =>
      simp only [hd, cond_true] at h
      obtain ⟨h1, h2⟩ := region_core hP hgl hnt hd h hs (Q := Final K C k) (fun β' r a' w' hr hX => ⟨β', _, .normal, rfl, hr.toA, hX⟩)
      cases draw with
      | false => exact wpIn_region (ops_in hF hk final_no_panic final_no_out _ a w (h1 rfl) hp)
      | true => exact wpIn_region_any hm (any_in hF hk final_no_panic final_no_out _ _ a _ (h2 rfl) hp)
  | seq x y ihx ihy =>
    intro k s β a w hk h hs hp
    simp only [keepsC, Bool.and_eq_true] at hk
    refine wpIn_seq (wpIn_mono (ihx _ s β a w hk.1 h hs hp) ?_)
    rintro e a' w' ⟨⟨β', s', ae, he, hs', hk'⟩, hp'⟩
    cases e <;> simp only [exitOf, reduceCtorEq, Option.some.injEq] at he
    · subst he; exact ihy k s' β' a' w' hk.2 hk' hs' hp'
    · subst he; exact ⟨⟨β', s', _, rfl, hs', hk'⟩, hp'⟩
    · subst he; exact ⟨⟨β', s', _, rfl, hs', hk'⟩, hp'⟩
  | cond c x y ihx ihy =>
    intro k s β a w hk h hs hp
    simp only [keepsC, Bool.and_eq_true] at hk
    simp only [run] at h
    split at h
    · rename_i b hb
      have hrel : Rel β w (ev K.gl s.fr c) (a.eval c) := by
        have := rel_ev (hs.toR #[]) (x := c) (fun t _ => rfl)
        exact this
      rw [← hgl, hb] at hrel
      have hv := rel_bool_inv hrel
      exact wpIn_cond_split hv (fun ht => ihx k s β a w hk.1 (h.1 ht) hs hp) (fun hf => ihy k s β a w hk.2 (h.2 hf) hs hp)
    · exact h.elim
  | block id x ih =>
    intro k s β a w hk h hs hp
    refine wpIn_block (wpIn_mono (ih _ s β a w hk h hs hp) ?_)
    rintro e a' w' ⟨⟨β', s', ae, he, hs', hk'⟩, hp'⟩
    cases e <;> simp only [exitOf, reduceCtorEq, Option.some.injEq] at he
    · subst he; exact ⟨⟨β', s', _, rfl, hs', hk'⟩, hp'⟩
    · rename_i j
      subst he
      simp only [Exit.inBlock]
      by_cases e : j = id
      · subst e
        rw [if_pos rfl]
        simp only [Nat.beq_refl, cond_true] at hk'
        exact ⟨⟨β', s', .normal, rfl, hs', hk'⟩, hp'⟩
      · rw [if_neg e]
        have hb : Nat.beq j id = false := by
          cases hb : Nat.beq j id with
          | false => rfl
          | true => exact absurd (Nat.eq_of_beq_eq_true hb) e
        simp only [hb, cond_false] at hk'
        exact ⟨⟨β', s', .leave j, rfl, hs', hk'⟩, hp'⟩
    · subst he; exact ⟨⟨β', s', _, rfl, hs', hk'⟩, hp'⟩
  | _ => intro k s β a w hk; cases hk


def CalmIn (β : Book) (w W : World) : Prop := w.heap.size ≤ W.heap.size ∧ (∀ b, b < w.heap.size → β.free b → W.heap[b]? = w.heap[b]?) ∧ ∀ b, b < w.heap.size → W.shape? b = w.shape? b
def Stays (β : Book) (w W W' : World) : Prop := CalmIn β w W → CalmIn β w W'

def Iter (P : Program) (gl : Globs) (gf : FuncId) (lb : List AV) (n : Nat) (xs : Fin n → AV) : Prop :=
  Enters P gf ∧ ∀ (β : Book) (w : World) (vs : Array Value), (∀ b, β.F b → b < w.heap.size) → (∀ id b k mu, β.m id = some (.lives b k mu) → b < w.heap.size) → GlobB gl β w → Rels β w lb vs →
    ∃ ys : Fin n → Value, (∀ i, Rel β w (xs i) (ys i)) ∧ SeqStopsK Fence.wide 8 P gf vs (fun i => #[ys i]) (Stays β w) (fun l => l = List.finRange n) (fun _ => True) n w

def roundT (P : Program) (gl : Globs) (own : FuncId → Option (List Bool)) (ng nt : Nat) (c : Code) (s s' : ASt) : Tree :=
  run ⟨P, gl, nt, own, ng⟩ c (fun e t => match e with | .normal => .again t (fun u => Le ng u s') | _ => .bad "round") s
def Round (P : Program) (gl : Globs) (own : FuncId → Option (List Bool)) (ng nt : Nat) (c : Code) (s s' : ASt) : Prop := (roundT P gl own ng nt c s s').wp P gl (Le ng)

theorem round_sk {P : Program} {gl : Globs} {own : FuncId → Option (List Bool)} {ng nt : Nat} {c : Code} {s s' : ASt} (sk : Sk) (hu : unroll ng (roundT P gl own ng nt c s s') sk = sk) (h : sk.ok P gl ng) : Round P gl own ng nt c s s' :=
  unroll_ok sk _ hu h
theorem k_againR {P : Program} {gl : Globs} {ng : Nat} {s' : ASt} {ns π : List Nat} {vals : List AV} {os : List (Option Ob)} (h : ∀ s, Desc ng s ns π vals os → Le ng s s') : (Sk.again (fun u => Le ng u s') ns π vals os).ok P gl ng := h

theorem lookZ_none {ns : List Nat} {vs : List AV} {n : Nat} (h : n ∉ ns) : lookZ ns vs n = .junk := by
  induction ns generalizing vs with
  | nil => rfl
  | cons m ns ih =>
    cases vs with
    | nil => rfl
    | cons v vs =>
      rw [List.mem_cons, not_or] at h
      have hb : Nat.beq m n = false := by
        cases hb : Nat.beq m n with
        | false => rfl
        | true => exact absurd (Nat.eq_of_beq_eq_true hb).symm h.1
      simp only [lookZ, hb, cond_false]
      exact ih h.2

def calmB (β : Book) (w : World) : Book := ⟨fun _ => none, fun b => b < w.heap.size ∧ ¬ β.free b⟩
theorem Rel.calm {β : Book} {w W : World} {a : AV} {v : Value} (h : Rel β w a v) (hc : Cl a) (hW : CalmIn β w W) : Rel (calmB β w) W a v := by
  let B1 : Book := ⟨fun _ => none, fun b => ¬ β.free b⟩
  have f1 : ∀ b, β.free b → B1.free b := fun b h => ⟨fun h' => h' h, fun id m h => by cases h⟩
  have hk : Keeps B1 w (calmB β w) W := by
    refine ⟨fun id o h => (by cases h), fun b hb hfb => hW.2.1 b hb (Classical.byContradiction fun h => hfb.1 h), fun b hb hfb => ⟨fun h => hfb.1 h.2, fun id m h => by cases h⟩, fun b el sz h => ?_⟩
    rw [hW.2.2 b (lt_of_shape h)]; exact h
  exact (h.rebook f1 hc).keep hk

def calmK (P : Program) (gl : Globs) (nt : Nat) (β : Book) (w W : World) : Ctx := ⟨P, gl, W.heap.size, W, nt, (calmB β w).F, fun _ => False, fun _ => none, true⟩

theorem Sim.calm {P : Program} {gl : Globs} {nt : Nat} {β : Book} {w W : World} {ns : List Nat} {vs : List AV} {a : Act} (hg : GlobB gl β w) (hW : CalmIn β w W) (hsz : a.tmps.size = nt) (hd : a.defers = [])
    (hv : ∀ (k n : Nat) v, ns[k]? = some n → vs[k]? = some v → Rel (calmB β w) W v (a.tmps.getD n undef)) : Sim (calmK P gl nt β w W) (calmB β w) (mkSt ns vs []) a W := by
  refine ⟨fun n => ?_, hsz, by rw [hd]; exact Marks.nil _ _, fun id o h => (by simp [mkSt] at h), fun _ _ _ _ _ _ _ h => (by cases h), fun _ _ => rfl, fun _ _ _ _ h => (by cases h), fun _ _ h => (by cases h), rfl, fun b hb => ⟨Nat.lt_of_lt_of_le hb.1 hW.1, fun h => h⟩,
    Kept.refl _ _ _, Nat.le_refl _, fun g m h hgl => ((hg g m h hgl).calm ?_ hW)⟩
  · show Rel _ _ (lookZ ns vs n) _
    clear hg hW hsz hd
    induction ns generalizing vs with
    | nil => exact .junk
    | cons m ns ih =>
      cases vs with
      | nil => exact .junk
      | cons v vs =>
        simp only [lookZ]
        cases hb : Nat.beq m n with
        | true =>
          have := Nat.eq_of_beq_eq_true hb
          subst this
          exact hv 0 m v rfl rfl
        | false => exact ih (fun k n v hn hv' => hv (k + 1) n v (by simpa using hn) (by simpa using hv'))
  · obtain ⟨_, _, _, _, _, _, _, _, hcl, _⟩ := rel_ipt_inv (hg g m h hgl)
    exact .ipt hcl

theorem Round.in {F : Fence} {n : Nat} {K : Ctx} {own : FuncId → Option (List Bool)} {ng : Nat} {c : Code} {s s' : ASt} {β : Book} {a : Act} {w : World} {pins : List Nat} (hr : Round K.P K.gl own ng K.nt c s s') (hF : Open F) (hk : keepsC pins c = true)
    (hng : ∀ id, ng ≤ id → K.b0 id = none) (hm : K.P.follows .mixedOrders = true) (hs : Sim K β s a w) : c.wpIn F n K.P (fun e a' w' => e = .normal ∧ (∃ β', Sim K β' s' a' w') ∧ PinIn pins a a') a w := by
  refine wpIn_mono (runsIn (C := ⟨K.P, K.gl, K.nt, own, ng⟩) (pins := pins) (a0 := a) hF rfl rfl rfl hm c _ s β a w hk hr hs (fun _ _ => rfl)) ?_
  rintro e a' w' ⟨⟨β', t, ae, he, hs', hk'⟩, hp⟩
  cases e <;> simp only [exitOf, reduceCtorEq, Option.some.injEq] at he
  · subst he; exact ⟨rfl, hk' K β' a' w' hng hs', hp⟩
  · subst he; exact hk'.elim
  · subst he; exact hk'.elim

theorem Round.ops {F : Fence} {n : Nat} {K : Ctx} {own : FuncId → Option (List Bool)} {ng id : Nat} {ops : Array Oper} {s s' : ASt} {β : Book} {a : Act} {w : World} {pins : List Nat} (hr : Round K.P K.gl own ng K.nt (.region id ops false) s s') (hF : Open F) (hk : keepsOps pins ops = true)
    (hng : ∀ id, ng ≤ id → K.b0 id = none) (hs : Sim K β s a w) : wpOpsIn F n K.P ops (fun e a' w' => e = .normal ∧ (∃ β', Sim K β' s' a' w') ∧ PinIn pins a a') (List.range ops.size) a w := by
  have h : (run ⟨K.P, K.gl, K.nt, own, ng⟩ (.region id ops false) (fun e t => match e with | .normal => .again t (fun u => Le ng u s') | _ => .bad "round") s).wp K.P K.gl (Le ng) := hr
  simp only [run] at h
  cases hd : dstsOk ops with
  | false => simp only [hd, cond_false] at h; exact h.elim
  | true =>
    simp only [hd, cond_true] at h
    have := (region_core (K := K) (C := ⟨K.P, K.gl, K.nt, own, ng⟩) rfl rfl rfl hd h hs (Q := fun e a w => e = .normal ∧ ∃ β', Sim K β' s' a w) (fun β' r a' w' hr hX => ⟨rfl, hX K β' a' w' hng hr.toA⟩)).1 rfl
    have h2 := ops_in (a0 := a) (pins := pins) (n := n) hF hk (fun _ _ _ h => by cases h.1) (fun ⟨_, _, h⟩ => by cases h.1) _ a w this (fun _ _ => rfl)
    have e : (fun e a' w' => (e = Exit.normal ∧ ∃ β', Sim K β' s' a' w') ∧ PinIn pins a a') = (fun e a' w' => e = .normal ∧ (∃ β', Sim K β' s' a' w') ∧ PinIn pins a a') := funext fun _ => funext fun _ => funext fun _ => propext and_assoc
    rw [e] at h2
    exact h2

def allMu (obs : List (Option Ob)) : Bool := obs.all fun o => match o with | some o => o.mu | none => false

theorem allMu_spec {obs : List (Option Ob)} (h : allMu obs = true) {k : Nat} (hk : k < obs.length) : ∃ o, obs.getD k none = some o ∧ o.mu = true := by
  have := List.all_eq_true.1 h obs[k] (List.getElem_mem hk)
  rw [List.getD_eq_getElem?_getD, List.getElem?_eq_getElem hk]
  cases ho : obs[k] with
  | none => rw [ho] at this; cases this
  | some o => rw [ho] at this; exact ⟨o, by simp, this⟩

theorem opq_range {P : Program} {gl : Globs} {own : FuncId → Option (List Bool)} {ng nt : Nat} {g : Operand} {p d : Nat} {assign body : Code} {gf : Nat} {lb : List AV} {n : Nat} {xs : Fin n → AV} {ns : List Nat} {vs : List AV}
    {obs : List (Fin n) → List (Option Ob)} {obs1 : List (Option Ob)} (hev : ev gl (lookZ ns vs) g = .fn (.func gf) [] lb) (hit : Iter P gl gf lb n xs) (hcl : ∀ x, Cl (xs x))
    (hasg : ∀ (l : Nat) (a : Act) (W : World) (K : Act → World → Prop), K (a.put (some d) (a.tmps.getD p undef)) W → assign.wpIn (Fence.wide.inRound l) 7 P (Exit.then K (fun _ _ _ => False)) a W)
    (hmu : ∀ pre, allMu (obs pre) = true) (hpins : (keepsC ns body && (!memN ns p && !memN ns d && Nat.blt p nt && Nat.blt d nt)) = true)
    (hround : ∀ pre x, pre.length < n → Round P gl own ng nt body (mkSt (d :: p :: ns) (xs x :: xs x :: vs) (obs pre)) (mkSt ns vs (obs (pre ++ [x]))))
    (h1 : obs (List.finRange n) = obs1) : Opq P gl ng nt (.rangeFunc g #[p] assign body) (mkSt ns vs (obs [])) (mkSt ns vs obs1) := by
  subst h1
  intro K β0 a w hKP hKgl hKnt hng hqt hm hs0
  subst hKP hKgl hKnt
  refine wpIn_wide (n := 9).1 ?_
  simp only [Bool.and_eq_true, Bool.not_eq_true', Nat.blt_eq] at hpins
  obtain ⟨hpb, ⟨⟨hpn, hdn⟩, hpt⟩, hdt⟩ := hpins
  have hpn' : p ∉ ns := fun h => by rw [memN_iff.2 h] at hpn; cases hpn
  have hdn' : d ∉ ns := fun h => by rw [memN_iff.2 h] at hdn; cases hdn
  have hG0 : ∀ id b m mu, β0.m id = some (.lives b m mu) → mu = true := fun id b m mu h => by
    have hid : id < (obs []).length := Nat.lt_of_not_le fun hle => by rw [hs0.fresh id hle] at h; cases h
    obtain ⟨o, ho, hmu'⟩ := allMu_spec (hmu []) hid
    rcases hs0.heap id o ho with ⟨b', h1, _⟩ | ⟨h1, _⟩
    · rw [h1] at h; cases h; exact hmu'
    · rw [h1] at h; cases h
  let K0 : Ctx := ⟨K.P, K.gl, w.heap.size, w, K.nt, K.F, fun b => ∃ id m, β0.m id = some (.lives b m true), K.b0, true⟩
  have hlive0 : ∀ b, K0.G b → K.B ≤ b ∨ K.G b := fun b ⟨id, m, h⟩ => (hs0.live id b m true h).1
  have hF0 : ∀ b, K.F b → b < w.heap.size ∧ ¬ K0.G b := fun b hb => ⟨Nat.lt_of_lt_of_le (hs0.hF b hb).1 hs0.hB, fun hG => by
    rcases hlive0 b hG with h | h
    · have := (hs0.hF b hb).1; omega
    · exact (hs0.hF b hb).2 h⟩
  have hS0 : Sim K0 β0 (mkSt ns vs (obs [])) { a with defers := [] } w :=
    ⟨hs0.slot, hs0.size, Marks.nil _ _, hs0.heap, hs0.inj, hs0.fresh, fun id b m mu h => ⟨.inr ⟨id, m, by rw [h, hG0 id b m mu h]⟩, (hs0.live id b m mu h).2⟩, hs0.giv, hs0.bF, hF0, Kept.refl _ _ _, Nat.le_refl _, hs0.glob⟩
  have hfr : Rel β0 w (.fn (.func gf) [] lb) (a.eval g) := by
    have := rel_ev (hs0.toR #[]) (x := g) (fun t _ => rfl)
    have e : ev K.gl (ASt.toR (mkSt ns vs (obs []))).fr g = .fn (.func gf) [] lb := hev
    rw [e] at this
    exact this
  obtain ⟨vf, vb, hav, hvf, hlb⟩ : ∃ vf vb, a.eval g = .func (.func gf) vf vb ∧ vf.size = 0 ∧ Rels β0 w lb vb := by
    generalize a.eval g = u at hfr
    cases hfr with
    | fn h1 h2 h3 h4 => exact ⟨_, _, rfl, by simpa using h1.symm, h3, h4⟩
  have hvf' : vf = #[] := Array.eq_empty_of_size_eq_zero hvf
  subst hvf'
  obtain ⟨⟨fn, code, hfn, hfb, hname⟩, hitr⟩ := hit
  obtain ⟨ys, hyr, hseq⟩ := hitr β0 w vb (fun b hb => by rw [hs0.bF] at hb; exact Nat.lt_of_lt_of_le (hs0.hF b hb).1 hs0.hB) (fun id b k mu h => (hs0.live id b k mu h).2) hs0.glob hlb
  have calm : ∀ {β : Book} {s : ASt} {a' : Act} {W : World}, Sim K0 β s a' W → CalmIn β0 w W := fun hs => ⟨hs.kept.size, fun b hb hf => hs.kept.block b hb (fun ⟨id, m, h⟩ => hf.2 id m h), hs.kept.shape⟩
  have hfree : ∀ {β : Book} {s : ASt} {a' : Act} {W : World}, (∀ id b m mu, β.m id = some (.lives b m mu) → mu = true) → Sim K0 β s a' W → ∀ b, b < w.heap.size → β0.free b → β.free b := fun hmt hs b hb hf =>
    ⟨by rw [hs.bF]; have := hf.1; rw [hs0.bF] at this; exact this, fun id m h => by
      rcases (hs.live id b m true h).1 with h' | ⟨id', m', h'⟩
      · exact absurd hb (Nat.not_lt.2 h')
      · exact hf.2 id' m' h'⟩
  have item : ∀ {β : Book} {s : ASt} {a' : Act} {W : World} (x : Fin n), Sim K0 β s a' W → (∀ b, b < w.heap.size → β0.free b → β.free b) → Rel β W (xs x) (ys x) := fun {β s a' W} x hs hf => by
    let B1 : Book := ⟨fun _ => none, fun b => ¬ β0.free b⟩
    let B2 : Book := ⟨fun _ => none, fun b => ¬ β.free b⟩
    have f1 : ∀ b, β0.free b → B1.free b := fun b h => ⟨fun h' => h' h, fun id m h => by cases h⟩
    have f2 : ∀ b, B2.free b → β.free b := fun b h => Classical.byContradiction fun h' => h.1 h'
    have hk : Keeps B1 w B2 W := by
      refine ⟨fun id o h => (by cases h), fun b hb hfb => (calm hs).2.1 b hb (Classical.byContradiction fun h => hfb.1 h), fun b hb hfb => ⟨fun h => h (hf b hb (Classical.byContradiction fun h => hfb.1 h)), fun id m h => by cases h⟩, fun b el sz h => ?_⟩
      have := hs.kept.shape b (lt_of_shape h)
      rw [this]; exact h
    exact ((((hyr x).rebook f1 (hcl x)).keep hk).rebook f2 (hcl x))
  let I : List (Fin n) → World → Prop := fun pre W => ∃ β, Sim K0 β (mkSt ns vs (obs pre)) { a with defers := [] } W
  have hmt : ∀ {pre : List (Fin n)} {β : Book} {a' : Act} {W : World}, Sim K0 β (mkSt ns vs (obs pre)) a' W → ∀ id b m mu, β.m id = some (.lives b m mu) → mu = true := fun {pre β a' W} hs id b m mu h => by
    have hid : id < (obs pre).length := Nat.lt_of_not_le fun hle => by rw [hs.fresh id hle] at h; cases h
    obtain ⟨o, ho, hmu'⟩ := allMu_spec (hmu pre) hid
    rcases hs.heap id o ho with ⟨b', h1, _⟩ | ⟨h1, _⟩
    · rw [h1] at h; cases h; exact hmu'
    · rw [h1] at h; cases h
  have hI : OwnFrom w.heap.size I := by
    rintro pre A B row ⟨β, hs⟩ hg hr
    have hne : ∀ b, b < A.heap.size → (∀ o, A.heap[b]? = some o → o.isCells = false → b < w.heap.size) → B.heap[b]? = A.heap[b]? := fun b hb h => hg.block b hb (fun e => by
      obtain ⟨h1, o, h2, h3⟩ := hr b e.symm
      have := h o h2 h3
      omega)
    refine ⟨β, hs.same (fun b cs el z hb => ?_) hg.size ?_ rfl (Marks.nil _ _)⟩
    · exact (hne b (Array.getElem?_eq_some_iff.1 hb).1 (fun o h1 h2 => by rw [hb] at h1; cases h1; cases h2)).trans hb
    · have hsz := hs.kept.size
      have low : ∀ k, k < w.heap.size → B.heap[k]? = A.heap[k]? := fun k hk => hne k (by have : w.heap.size ≤ A.heap.size := hsz; omega) (fun _ _ _ => hk)
      exact ⟨hg.os.trans hs.kept.os, hg.tape.trans hs.kept.tape, hg.output.trans hs.kept.output, Nat.le_trans hsz hg.size, fun k hk hG => (low k hk).trans (hs.kept.block k hk hG), fun k hk => (shape_of_block (low k hk)).trans (hs.kept.shape k hk),
        fun k o hk ho => (low k (Array.getElem?_eq_some_iff.1 hk).1).trans (hs.kept.othr k o hk ho)⟩
  let a1 : Fin n → Act := fun x => Act.put { tmps := a.tmps.setIfInBounds p (ys x), defers := [] } (some d) (ys x)
  have a1s : ∀ x m, m ≠ d → m ≠ p → (a1 x).tmps.getD m undef = a.tmps.getD m undef := fun x m h1 h2 => by
    simp [a1, Act.put, Array.getD_eq_getD_getElem?, Array.getElem?_setIfInBounds_ne (Ne.symm h1), Array.getElem?_setIfInBounds_ne (Ne.symm h2)]
  have hsize : a.tmps.size = K.nt := hs0.size
  refine wpIn_rangeFunc_ownG (F := Fence.wide) rfl (by decide) (gf := gf) (lb := vb) hav trivial (fun args w => ?_) hseq (fun h k h0 => k (h h0)) (fun W l o o' hl ho hc hw h => ?_) (Below.refl _ _) (fun _ => rfl) I (fun _ _ _ => False) hI (fun _ _ _ _ _ h _ _ => h) ⟨β0, hS0⟩ a1
    (fun l x W Kc hK => ?_) (fun l pre x W hi hlen => ?_) (fun D pre W hD hpre hi hW => ?_) (fun D c pre W hD _ h => h.elim)
  · simp only [callFunc, run_program, Sem.run_bind, Result.andThen_ok, hfn, hfb, hname, Bool.false_eq_true, if_false]
    rfl
  · refine ⟨Nat.le_trans h.1 (by simp), fun b hb hf => ?_, fun b hb => ?_⟩
    · exact (World.putObj_heap_other (by omega)).trans (h.2.1 b hb hf)
    · exact (shape_of_block (World.putObj_heap_other (by omega))).trans (h.2.2 b hb)
  · refine hasg l _ W Kc ?_
    have e0 : (#[p].zip #[ys x]).foldl (fun t (q : Tmp × Value) => t.setIfInBounds q.1 q.2) a.tmps = a.tmps.setIfInBounds p (ys x) := by simp
    show Kc (Act.put { tmps := (#[p].zip #[ys x]).foldl (fun t (q : Tmp × Value) => t.setIfInBounds q.1 q.2) a.tmps, defers := [] } (some d) (((#[p].zip #[ys x]).foldl (fun t (q : Tmp × Value) => t.setIfInBounds q.1 q.2) a.tmps).getD p undef)) W
    rw [e0]
    have e : (a.tmps.setIfInBounds p (ys x)).getD p undef = ys x := by simp [Array.getD_eq_getD_getElem?, hsize, hpt]
    rw [e]
    exact hK
  · obtain ⟨β, hs⟩ := hi
    have hit' := item x hs (hfree (hmt hs) hs)
    let K1 : Ctx := ⟨K.P, K.gl, W.heap.size, W, K.nt, K.F, fun b => w.heap.size ≤ b ∨ K0.G b, K.b0, true⟩
    have hwW : w.heap.size ≤ W.heap.size := hs.kept.size
    have hs1 : Sim K1 β (mkSt (d :: p :: ns) (xs x :: xs x :: vs) (obs pre)) (a1 x) W := by
      refine ⟨fun m => ?_, by simp [a1, Act.put, hsize]; rfl, Marks.nil _ _, hs.heap, hs.inj, hs.fresh, fun id b m mu h => ⟨.inr (hs.live id b m mu h).1, (hs.live id b m mu h).2⟩, hs.giv, hs.bF,
        fun b hb => ⟨Nat.lt_of_lt_of_le (hF0 b hb).1 hwW, fun h => h.elim (fun h => by have := (hF0 b hb).1; omega) (hF0 b hb).2⟩, Kept.refl _ _ _, Nat.le_refl _, hs.glob⟩
      show Rel β W (lookZ (d :: p :: ns) (xs x :: xs x :: vs) m) ((a1 x).tmps.getD m undef)
      by_cases hmd : d = m
      · subst hmd
        have e : (a1 x).tmps.getD d undef = ys x := by simp [a1, Act.put, Array.getD_eq_getD_getElem?, hsize, hdt]
        simp only [lookZ, Nat.beq_refl, cond_true]
        rw [e]; exact hit'
      · have hb : Nat.beq d m = false := by
          cases hb : Nat.beq d m with
          | false => rfl
          | true => exact absurd (Nat.eq_of_beq_eq_true hb) hmd
        simp only [lookZ, hb, cond_false]
        by_cases hmp : p = m
        · subst hmp
          have e : (a1 x).tmps.getD p undef = ys x := by
            have h1 : (a1 x).tmps[p]? = some (ys x) := by
              show ((a.tmps.setIfInBounds p (ys x)).setIfInBounds d (ys x))[p]? = _
              rw [Array.getElem?_setIfInBounds_ne hmd]
              simp [hsize, hpt]
            rw [Array.getD_eq_getD_getElem?, h1]; rfl
          simp only [Nat.beq_refl, cond_true]
          rw [e]; exact hit'
        · have hb : Nat.beq p m = false := by
            cases hb : Nat.beq p m with
            | false => rfl
            | true => exact absurd (Nat.eq_of_beq_eq_true hb) hmp
          simp only [hb, cond_false]
          rw [a1s x m (Ne.symm hmd) (Ne.symm hmp)]
          exact hs.slot m
    refine wpIn_mono (runsIn (K := K1) (C := ⟨K.P, K.gl, K.nt, own, ng⟩) (pins := ns) (a0 := a1 x) (.inr ⟨l, rfl⟩) rfl rfl rfl hm body _ _ β (a1 x) W hpb (hround pre x hlen) hs1 (fun _ _ => rfl)) ?_
    rintro e a' W' ⟨⟨β', s', ae, he, hs', hk⟩, hpin⟩
    cases e <;> simp only [exitOf, reduceCtorEq, Option.some.injEq] at he
    · subst he
      obtain ⟨β2, hs2⟩ := hk K1 β' a' W' hng hs'
      have hWW : W.heap.size ≤ W'.heap.size := hs2.kept.size
      have hs3 : Sim K0 β2 (mkSt ns vs (obs (pre ++ [x]))) { a with defers := [] } W' := by
        refine ⟨fun m => ?_, hsize, Marks.nil _ _, hs2.heap, hs2.inj, hs2.fresh, fun id b m mu h => ⟨?_, (hs2.live id b m mu h).2⟩, hs2.giv, hs2.bF, hF0, hs.kept.trans (hs2.kept.mono hwW (fun k hk hG => ?_)), Nat.le_trans hwW hWW, hs2.glob⟩
        · by_cases hm' : m ∈ ns
          · have := hs2.slot m
            rw [hpin m hm', a1s x m (fun e => hdn' (e ▸ hm')) (fun e => hpn' (e ▸ hm'))] at this
            exact this
          · have e : (mkSt ns vs (obs (pre ++ [x]))).fr m = .junk := lookZ_none hm'
            rw [e]; exact .junk
        · rcases (hs2.live id b m mu h).1 with h' | h'
          · exact .inl (Nat.le_trans hwW h')
          · exact h'
        · rcases hG with h | h
          · have hk' : k < w.heap.size := hk
            omega
          · exact h
      exact ⟨⟨hWW, fun k o _ hk ho => hs2.kept.othr k o hk ho⟩, fun _ => calm hs3, β2, hs3⟩
    · subst he; exact hk.elim
    · subst he; exact hk.elim
  · obtain ⟨β, hs⟩ := hi
    have hpre' : pre = List.finRange n := hpre
    subst hpre'
    refine ⟨rfl, β, hs.slot, hsize, ?_, hs.heap, hs.inj, hs.fresh, fun id b m mu h => ⟨?_, (hs.live id b m mu h).2⟩, hs.giv, hs.bF, hs0.hF, hs0.kept.trans (hs.kept.mono hs0.hB (fun k hk hG => ?_)), Nat.le_trans hs0.hB hs.kept.size, hs.glob⟩
    · obtain ⟨Ds, e1, e2, _, e3⟩ := hs0.defers
      refine ⟨D :: Ds, by show _ :: a.defers = _; rw [e1]; rfl, List.nodup_cons.2 ⟨fun h => ?_, e2⟩, fun h => (by rw [hqt] at h; cases h), fun D' h => ?_⟩
      · have := (Array.getElem?_eq_some_iff.1 (e3 D h).2.2).1
        omega
      · rcases List.mem_cons.1 h with rfl | h
        · exact ⟨Nat.le_trans hs0.hB hD, Nat.le_trans hs0.kept.size hD, hW⟩
        · exact ⟨(e3 D' h).1, (e3 D' h).2.1, hs.kept.othr D' _ (e3 D' h).2.2 rfl⟩
    · rcases (hs.live id b m mu h).1 with h' | h'
      · exact .inl (Nat.le_trans hs0.hB h')
      · exact hlive0 b h'
    · rcases hlive0 k hG with h | h
      · omega
      · exact h

end Go.Am

namespace Go.Sp
open Go Go.Am Go.RowKit

theorem kept_calm {β : Book} {w W W1 : World} (h : CalmIn β w W) (k : Kept W.heap.size (fun _ => False) W W1) : CalmIn β w W1 :=
  ⟨Nat.le_trans h.1 k.size, fun b hb hf => (k.block b (Nat.lt_of_lt_of_le hb h.1) (fun h => h)).trans (h.2.1 b hb hf), fun b hb => (k.shape b (Nat.lt_of_lt_of_le hb h.1)).trans (h.2.2 b hb)⟩
theorem kept_grown {W W1 : World} (k : Kept W.heap.size (fun _ => False) W W1) : W.grownBy W1 none := ⟨k.os, k.tape, k.output, k.size, fun b hb _ => k.block b hb (fun h => h)⟩

theorem op_at {ops : Array Oper} {i : Nat} {d : Option Tmp} {op : Op} {g : Option (Nat × Bool)} (h : (ops[i]?).map (fun o => (o.dst, o.op, o.guard)) = some (d, op, g)) : ∃ o, ops[i]? = some o ∧ o.dst = d ∧ o.op = op ∧ o.guard = g := by
  cases ho : ops[i]? with
  | none => rw [ho] at h; cases h
  | some o => rw [ho] at h; simp only [Option.map_some, Option.some.injEq, Prod.mk.injEq] at h; exact ⟨o, rfl, h.1, h.2.1, h.2.2⟩
theorem put_same {a : Act} {d : Nat} {v : Value} (h : d < a.tmps.size) : (a.put (some d) v).tmps.getD d undef = v := getD_put_same h
theorem put_ne {a : Act} {d n : Nat} {v : Value} (h : n ≠ d) : (a.put (some d) v).tmps.getD n undef = a.tmps.getD n undef := getD_put_ne h
theorem put_size {a : Act} {d : Nat} {v : Value} : (a.put (some d) v).tmps.size = a.tmps.size := by simp [Act.put]

structure ItFr (y v1 v2 : Value) (i : Nat) (a : Act) : Prop where
  size : a.tmps.size = 31
  defers : a.defers = []
  t0 : a.tmps.getD 0 undef = y
  t1 : a.tmps.getD 1 undef = v1
  t2 : a.tmps.getD 2 undef = v2
  t4 : a.tmps.getD 4 undef = .int .i64 i

theorem chunk_of {P : Program} {gl : Globs} {own : FuncId → Option (List Bool)} {g : Nat} {fn : Func} {c R0 R1 R2 R3 R4 : Code} {r4 : Array Oper} {N : Nat} {h : Nat → Nat → Int} (hN : 1 ≤ N) (hf : P.funcs[g]? = some fn) (hbody : fn.body = some c) (hname : (fn.name == "runtime.NumGoroutine") = false) (hrs : fn.results = #[]) (hnt : fn.ntmps = 31)
    (hm : P.follows .mixedOrders = true) (hshape : c = .seq R0 (.block 0 (.loop (.seq (.seq R1 (.cond (.tmp 9) .skip (.exit 0))) (.seq (.block 1 (.seq R3 (.seq R4 (.cond (.tmp 30) .ret .skip)))) R2))))) (hr4 : R4 = .region 4 r4 false)
    (hsz : r4.size = 12) (hgd : (r4.toList.all fun o => o.guard.isNone) = true) (hu44 : P.underlying 44 = some (.slice 31)) (hsh : szT P 31 = some 32)
    (h9 : (r4[9]?).map (fun o => (o.dst, o.op, o.guard)) = some (some 28, .slice 44 (.tmp 20) (some (.tmp 21)) (some (.tmp 24)) (some (.tmp 27)), none))
    (h10 : (r4[10]?).map (fun o => (o.dst, o.op, o.guard)) = some (some 29, .call ⟨.value (.tmp 19), #[.tmp 28], #[44]⟩, none))
    (h11 : (r4[11]?).map (fun o => (o.dst, o.op, o.guard)) = some (some 30, .unOp .not 4 (.tmp 29), none))
    (k0 : keepsC [0, 1, 2] R0 = true) (k1 : keepsC [0, 1, 2, 4] R1 = true) (k2 : keepsC [0, 1, 2] R2 = true) (k3 : keepsC [0, 1, 2, 4] R3 = true) (k4 : keepsOps [0, 1, 2, 4] (r4.extract 0 9) = true)
    (i0 : Round P gl own 0 31 R0 (mkSt [] [] []) (mkSt [4] [.int .i64 0] []))
    (i1 : ∀ k : Nat, k ≤ 2 * N → Round P gl own 0 31 R1 (mkSt [1, 2, 4] [.ipt 1 fun _ => hsl (2 * N) h, .ipt 1 fun _ => .int .i64 2, .int .i64 k] []) (mkSt [9] [.bool (decide ((k : Int) < (2 * N : Nat)))] []))
    (i3 : ∀ k : Nat, k + 2 ≤ 2 * N → Round P gl own 0 31 R3 (mkSt [1, 2, 4] [.ipt 1 fun _ => hsl (2 * N) h, .ipt 1 fun _ => .int .i64 2, .int .i64 k] []) (mkSt [5] [.int .i64 2] []))
    (i4 : ∀ (y u : Value) (k : Nat), k + 2 ≤ 2 * N → Round P gl own 0 31 (.region 4 (r4.extract 0 9) false) (mkSt [0, 1, 4, 5] [.raw y, .ipt 1 fun _ => .raw u, .int .i64 k, .int .i64 2] []) (mkSt [19, 20, 21, 24, 27] [.raw y, .raw u, .int .i64 k, .int .i64 (k + 2), .int .i64 (k + 2)] []))
    (i2 : ∀ k : Nat, k + 2 ≤ 2 * N → Round P gl own 0 31 R2 (mkSt [2, 4] [.ipt 1 fun _ => .int .i64 2, .int .i64 k] []) (mkSt [4] [.int .i64 (k + 2)] [])) :
    Iter P gl g [.ipt 1 fun _ => hsl (2 * N) h, .ipt 1 fun _ => .int .i64 2] N (fun k => hsl 2 fun r => h (2 * k.1 + r)) := by
  refine ⟨⟨_, _, hf, hbody, hname⟩, fun β w vs hF hlt hg hv => ?_⟩
  obtain ⟨v1, v2, rfl, h1, h2⟩ : ∃ v1 v2, vs = #[v1, v2] ∧ Rel β w (.ipt 1 fun _ => hsl (2 * N) h) v1 ∧ Rel β w (.ipt 1 fun _ => .int .i64 2) v2 := by
    have hl : 2 = vs.size := hv.len
    obtain ⟨vs⟩ := vs
    match vs, hl with
    | [v1, v2], _ => exact ⟨v1, v2, rfl, hv.rel 0 _ _ rfl rfl, hv.rel 1 _ _ rfl rfl⟩
  obtain ⟨b1, o1, vals1, hv1, _, hf1, hc1, hr1, hcl1, hone1⟩ := rel_ipt_inv h1
  have hu := hr1 0 (by decide)
  generalize hu0 : vals1 0 = u at hu
  obtain ⟨a0, cap, hue, hcap, _, hrest⟩ := rel_isl_inv hu
  obtain ⟨b, off, vals, ha0, he, hfree, hcell, hrel, hcl, hone⟩ := hrest (by omega)
  subst ha0
  have hx : ∀ k : Nat, k < N → Rel β w (hsl 2 fun r => h (2 * k + r)) (.slice (some ⟨b, off + 2 * k * 32, none⟩) 2 2) := fun k hk =>
    .isl (fun i j => vals (2 * k + i) j) (by decide) (Nat.le_refl _) hfree (fun i j hi hj => by
      rw [← hcell (2 * k + i) j (by omega) hj]; congr 2; omega) (fun i j hi hj => hone _ _ (by omega) hj) (fun i j hi hj => hrel _ _ (by omega) hj) (fun i j hi hj => hcl _ _ (by omega) hj)
  refine ⟨fun k => .slice (some ⟨b, off + 2 * k.1 * 32, none⟩) 2 2, fun k => hx k.1 k.2, ?_⟩
  intro l J Jx W hbW hJ hJx hY hJ0
  have hcW : CalmIn β w W := ⟨hbW.size, fun b hb _ => hbW.block b hb, fun b hb => shape_of_block (hbW.block b hb)⟩
  refine callsIn_of_wp hf hbody trivial ?_
  have hJg : ∀ pre A B, J pre A → Kept A.heap.size (fun _ => False) A B → J pre B := fun pre A B hj k => hJ pre A B none hj (kept_grown k) (fun r h => by cases h)
  have hcl1' : Cl (.ipt 1 fun _ => hsl (2 * N) h) := .ipt hcl1
  have hcl2' : Cl (.ipt 1 fun _ => .int .i64 2) := .ipt fun _ _ => .int
  have hclu : Cl (.ipt 1 fun _ => .raw u) := .ipt fun _ _ => .raw
  have hraw : Rel β w (.raw u) (vals1 0) := by
    rw [hu0]
    exact .raw (fun cs e => by rw [hue] at e; cases e)
  have hur : Rel β w (.ipt 1 fun _ => .raw u) v1 := by
    rw [hv1]
    refine .ipt vals1 (by decide) hf1 hc1 hone1 (fun j hj => ?_) (fun _ _ => .raw)
    have : j = 0 := by omega
    subst this
    exact hraw
  generalize hy : (Value.func (.yield l) #[] #[]) = y
  have sim : ∀ {i : Nat} {a : Act} {W : World}, ItFr y v1 v2 i a → CalmIn β w W → Sim (calmK P gl 31 β w W) (calmB β w) (mkSt [1, 2, 4] [.ipt 1 fun _ => hsl (2 * N) h, .ipt 1 fun _ => .int .i64 2, .int .i64 i] []) a W := fun {i a W} ha hW =>
    Sim.calm hg hW ha.size ha.defers (fun k n v hn hv => by
      rcases k with _ | _ | _ | k
      · cases hn; cases hv; rw [ha.t1]; exact h1.calm hcl1' hW
      · cases hn; cases hv; rw [ha.t2]; exact h2.calm hcl2' hW
      · cases hn; cases hv; rw [ha.t4]; exact .int
      · simp at hn)
  have pin : ∀ {i : Nat} {a a' : Act} {s : ASt} {β' : Book} {W W' : World}, ItFr y v1 v2 i a → PinIn [0, 1, 2, 4] a a' → Sim (calmK P gl 31 β w W) β' s a' W' → ItFr y v1 v2 i a' := fun {i a a' s β' W W'} f hp hs =>
    ⟨hs.size, hs.defers.quiet rfl, (hp 0 (by simp)).trans f.t0, (hp 1 (by simp)).trans f.t1, (hp 2 (by simp)).trans f.t2, (hp 4 (by simp)).trans f.t4⟩
  have hres : ∀ (a : Act) (W' : World), (results fn a.tmps).run P W' = .ok (.tuple #[]) W' := fun a W' => by
    rw [results_eq, hrs]
    simp
  have fin : ∀ k : Nat, (hk : k < N) → (List.finRange N).take k ++ [⟨k, hk⟩] = (List.finRange N).take (k + 1) := fun k hk => by
    rw [List.take_add_one]
    simp [hk]
  subst hshape
  refine wpIn_seq (wpIn_mono (Round.in (pins := [0, 1, 2]) (K := calmK P gl 31 β w W) i0 (.inl rfl) k0 (fun _ _ => rfl) hm (Sim.calm (ns := []) (vs := []) hg hcW (by simp [hnt]) rfl (fun k n v hn => by simp at hn))) ?_)
  rintro e a1 W1 ⟨rfl, ⟨β1, hs1⟩, hp1⟩
  have f1 : ItFr y v1 v2 0 a1 := ⟨hs1.size, hs1.defers.quiet rfl, (hp1 0 (by simp)).trans (by simp [Array.getD_eq_getD_getElem?, Array.getElem?_append]), (hp1 1 (by simp)).trans (by simp [Array.getD_eq_getD_getElem?, Array.getElem?_append]), (hp1 2 (by simp)).trans (by simp [Array.getD_eq_getD_getElem?, Array.getElem?_append]), rel_int_inv (hs1.slot 4)⟩
  have c1 := kept_calm hcW hs1.kept
  have j1 := hJg _ _ _ hJ0 hs1.kept
  show (Code.block 0 _).wpIn _ _ _ _ a1 W1
  refine wpIn_block (wpIn_loop (fun a W => ∃ k, k ≤ N ∧ ItFr y v1 v2 (2 * k) a ∧ CalmIn β w W ∧ J ((List.finRange N).take k) W) (fun a _ => match a.tmps.getD 4 undef with | .int _ i => (2 * N - i).toNat | _ => 0) ⟨0, Nat.zero_le _, f1, c1, j1⟩ ?_)
  rintro a2 W2 ⟨k, hk, f2, c2, j2⟩
  have hJk : ∀ pre A B, J pre A → Kept A.heap.size (fun _ => False) A B → J pre B := fun pre A B hj kk => hJ pre A B none hj (kept_grown kk) (fun r h => by cases h)
  refine wpIn_seq (wpIn_seq (wpIn_mono (Round.in (pins := [0, 1, 2, 4]) (K := calmK P gl 31 β w W2) (i1 (2 * k) (by omega)) (.inl rfl) k1 (fun _ _ => rfl) hm (sim f2 c2)) ?_))
  rintro e a3 W3 ⟨rfl, ⟨β3, hs3⟩, hp3⟩
  have f3 := pin f2 hp3 hs3
  have c3 := kept_calm c2 hs3.kept
  have j3 := hJk _ _ _ j2 hs3.kept
  have t9 : a3.eval (.tmp 9) = .bool (decide (((2 * k : Nat) : Int) < (2 * N : Nat))) := rel_bool_inv (hs3.slot 9)
  by_cases hkN : k < N
  rotate_left
  · -- the end
    refine wpIn_cond_false (by rw [t9]; congr 1; simp; omega) (wpIn_exit ?_)
    obtain rfl : k = N := by omega
    refine ⟨f3.defers, _, hres a3 W3, ⟨_, rfl⟩, .inl ⟨_, ?_, j3⟩⟩
    exact List.take_of_length_le (by simp)
  refine wpIn_cond_true (by rw [t9]; congr 1; simp; omega) (wpIn_skip ?_)
  refine wpIn_seq (wpIn_block (wpIn_seq (wpIn_mono (Round.in (pins := [0, 1, 2, 4]) (K := calmK P gl 31 β w W3) (i3 (2 * k) (by omega)) (.inl rfl) k3 (fun _ _ => rfl) hm (sim f3 c3)) ?_)))
  rintro e a4 W4 ⟨rfl, ⟨β4, hs4⟩, hp4⟩
  have f4 := pin f3 hp4 hs4
  have c4 := kept_calm c3 hs4.kept
  have j4 := hJk _ _ _ j3 hs4.kept
  have t5 : a4.tmps.getD 5 undef = .int .i64 2 := rel_int_inv (hs4.slot 5)
  refine wpIn_seq ?_
  subst hr4
  refine wpIn_region ?_
  have hr : List.range r4.size = List.range 9 ++ [9, 10, 11] := by rw [hsz]; rfl
  rw [hr]
  have hgn : ∀ i o, i < 9 → r4[i]? = some o → o.guard = none := fun i o hi ho => by
    have hmem : o ∈ r4.toList := by
      obtain ⟨h1, h2⟩ := Array.getElem?_eq_some_iff.1 ho
      rw [← h2]; simp
    have := List.all_eq_true.1 hgd o hmem
    cases hg' : o.guard with
    | none => rfl
    | some x => rw [hg'] at this; cases this
  have hsz9 : (r4.extract 0 9).size = 9 := by simp [hsz]
  have hpre : wpOpsIn Fence.wide 8 P (r4.extract 0 9) (fun e a' W' => e = .normal ∧ (∃ β', Sim (calmK P gl 31 β w W4) β' (mkSt [19, 20, 21, 24, 27] [.raw y, .raw u, .int .i64 (2 * k : Nat), .int .i64 ((2 * k : Nat) + 2), .int .i64 ((2 * k : Nat) + 2)] []) a' W') ∧ PinIn [0, 1, 2, 4] a4 a') (List.range 9) a4 W4 := by
    have := Round.ops (F := Fence.wide) (n := 8) (K := calmK P gl 31 β w W4) (pins := [0, 1, 2, 4]) (i4 y u (2 * k) (by omega)) (.inl rfl) k4 (fun _ _ => rfl) (Sim.calm (ns := [0, 1, 4, 5]) (a := a4) hg c4 f4.size f4.defers (fun k' n v hn hv => by
      rcases k' with _ | _ | _ | _ | k'
      · cases hn; cases hv; rw [f4.t0]; exact .raw (fun cs e => by rw [← hy] at e; cases e)
      · cases hn; cases hv; rw [f4.t1]; exact hur.calm hclu c4
      · cases hn; cases hv; rw [f4.t4]; exact .int
      · cases hn; cases hv; rw [t5]; exact .int
      · simp at hn))
    rwa [hsz9] at this
  refine opsIn_pre (ops' := r4.extract 0 9) (m := 9) (fun i hi => by rw [Array.getElem?_extract]; simp [hsz]; omega) hgn ?_ (List.range 9) (fun i hi => List.mem_range.1 hi) a4 W4 hpre
  rintro a5 W5 ⟨⟨β5, hs5⟩, hp5⟩
  have f5 := pin f4 hp5 hs5
  have c5 := kept_calm c4 hs5.kept
  have j5 := hJk _ _ _ j4 hs5.kept
  have raw_inv : ∀ {v a : Value} {β' : Book} {W' : World}, Rel β' W' (.raw a) v → v = a := fun h => by cases h; rfl
  have t19 : a5.eval (.tmp 19) = y := raw_inv (hs5.slot 19)
  have t20 : a5.eval (.tmp 20) = .slice (some ⟨b, off, none⟩) (2 * N) cap := (raw_inv (hs5.slot 20)).trans hue
  have t21 : a5.eval (.tmp 21) = .int .i64 (2 * k : Nat) := rel_int_inv (hs5.slot 21)
  have t24 : a5.eval (.tmp 24) = .int .i64 ((2 * k : Nat) + 2) := rel_int_inv (hs5.slot 24)
  have t27 : a5.eval (.tmp 27) = .int .i64 ((2 * k : Nat) + 2) := rel_int_inv (hs5.slot 27)
  obtain ⟨o9, ho9, hd9, hop9, hg9⟩ := op_at h9
  obtain ⟨o10, ho10, hd10, hop10, hg10⟩ := op_at h10
  obtain ⟨o11, ho11, hd11, hop11, hg11⟩ := op_at h11
  have wnt : ∀ (o : Oper) ys, o.guard = none → Region.wanted o ys = true := fun o ys hg => by simp [Region.wanted, hg]
  have e9 : (execOp a5.eval o9).run P W5 = .ok (.value (.slice (some ⟨b, off + 2 * k * 32, none⟩) 2 2)) W5 := by
    have hb1 : (Instr.sliceBounds true (2 * N) cap (some (.int .i64 (2 * k : Nat))) (some (.int .i64 ((2 * k : Nat) + 2))) (some (.int .i64 ((2 * k : Nat) + 2)))).run P W5 = .ok (2 * k, 2 * k + 2, 2 * k + 2) W5 := by
      have g1 : (0 : Int) ≤ ((2 * k : Nat) : Int) + 2 ∧ ((2 * k : Nat) : Int) + 2 ≤ cap := by omega
      have g2 : (0 : Int) ≤ ((2 * k : Nat) : Int) + 2 ∧ ((2 * k : Nat) : Int) + 2 ≤ ((2 * k + 2 : Nat) : Int) := by omega
      have g3 : (0 : Int) ≤ ((2 * k : Nat) : Int) ∧ ((2 * k : Nat) : Int) ≤ ((2 * k + 2 : Nat) : Int) := by omega
      have e1 : (((2 * k : Nat) : Int) + 2).toNat = 2 * k + 2 := by omega
      simp only [Instr.sliceBounds, Instr.sliceBound, asIntOf_run, Sem.run_bind, Result.andThen_ok, Sem.run_ite, if_pos g1, Sem.run_pure, e1, if_pos g2, if_pos g3, Option.isSome_some, if_true, Int.toNat_natCast]
    have hne : ¬ (2 * k + 2 = 2 * k) := by omega
    have e2 : 2 * k + 2 - 2 * k = 2 := by omega
    simp only [execOp, hop9, Instr.sliceAt, Instr.slice, t20, t21, t24, t27, Option.map_some, Sem.run_bind, run_underlying hu44, Result.andThen_ok, hb1, szT_run W5 hsh, Sem.run_pure, if_neg hne, add_mk, e2]
  simp only [wpOpsIn, ho9, ho10, ho11, wnt o9 _ hg9, if_true]
  refine ⟨fun _ _ => trivial, ?_⟩
  show o9.uponIn _ _ _ _ _ _ ((execOp a5.eval o9).run P W5)
  rw [e9, Oper.uponIn_value, hd9, if_pos (wnt o10 _ hg10)]
  refine ⟨fun _ _ => trivial, ?_⟩
  have hlen : ((List.finRange N).take k).length < N := by simp; omega
  obtain ⟨fn', tmps', asg, bd, hy10, hR⟩ := hY ((List.finRange N).take k) ⟨k, hkN⟩ W5 j5 hlen
  have e10 : (execOp (a5.put (some 28) (.slice (some ⟨b, off + 2 * k * 32, none⟩) 2 2)).eval o10).run P W5 = .ok (.round l fn' tmps' asg bd) W5 := by
    have v19 : (a5.put (some 28) (.slice (some ⟨b, off + 2 * k * 32, none⟩) 2 2)).eval (.tmp 19) = .func (.yield l) #[] #[] := by
      show (a5.put (some 28) _).tmps.getD 19 undef = _
      rw [put_ne (by decide), hy]
      exact t19
    have v28 : (a5.put (some 28) (.slice (some ⟨b, off + 2 * k * 32, none⟩) 2 2)).eval (.tmp 28) = .slice (some ⟨b, off + 2 * k * 32, none⟩) 2 2 := put_same (by rw [f5.size]; decide)
    simp [execOp, hop10, resolve, v19, v28, Deferred.ofValue, invoke]
    exact hy10
  show o10.uponIn _ _ _ _ _ _ ((execOp _ o10).run P W5)
  rw [e10, Oper.uponIn_round, hd10]
  generalize ha6 : a5.put (some 28) (.slice (some ⟨b, off + 2 * k * 32, none⟩) 2 2) = a6
  have sz6 : a6.tmps.size = 31 := by rw [← ha6, put_size]; exact f5.size
  have g6 : ∀ m, m ≠ 28 → a6.tmps.getD m undef = a5.tmps.getD m undef := fun m hm' => by rw [← ha6]; exact put_ne hm'
  have d6 : a6.defers = [] := by rw [← ha6]; exact f5.defers
  refine ⟨fun h => (by cases h), hR.mono ?_⟩
  have e11 : ∀ (v : Bool) (W6 : World), (execOp (a6.put (some 29) (.bool v)).eval o11).run P W6 = .ok (.value (.bool (!v))) W6 := fun v W6 => by
    have v29 : (a6.put (some 29) (.bool v)).eval (.tmp 29) = .bool v := put_same (by rw [sz6]; decide)
    have hun : (Op.unary UnOp.not (.bool v)).run P W6 = .ok (.bool (!v)) W6 := rfl
    simp [execOp, hop11, v29, Result.andThen, hun]
  rintro e W6 (⟨rfl, j6, s6⟩ | ⟨rfl, jx6⟩)
  · show (if Region.wanted o11 _ = true then _ else _)
    rw [if_pos (wnt o11 _ hg11)]
    refine ⟨fun _ _ => trivial, ?_⟩
    show o11.uponIn _ _ _ _ _ _ ((execOp _ o11).run P W6)
    rw [e11, Oper.uponIn_value, hd11]
    generalize ha7 : a6.put (some 29) (.bool true) = a7
    have sz7 : a7.tmps.size = 31 := by rw [← ha7, put_size]; exact sz6
    have v30 : (a7.put (some 30) (.bool (!true))).eval (.tmp 30) = .bool false := put_same (by rw [sz7]; decide)
    refine wpIn_cond_false v30 (wpIn_skip ?_)
    have g8 : ∀ m, m ≠ 28 → m ≠ 29 → m ≠ 30 → (a7.put (some 30) (.bool (!true))).tmps.getD m undef = a5.tmps.getD m undef := fun m h1 h2 h3 => by
      rw [put_ne h3, ← ha7, put_ne h2]; exact g6 m h1
    have f8 : ItFr y v1 v2 (2 * k) (a7.put (some 30) (.bool (!true))) := ⟨by rw [put_size]; exact sz7, by rw [← ha7]; exact d6, (g8 0 (by decide) (by decide) (by decide)).trans f5.t0, (g8 1 (by decide) (by decide) (by decide)).trans f5.t1, (g8 2 (by decide) (by decide) (by decide)).trans f5.t2, (g8 4 (by decide) (by decide) (by decide)).trans f5.t4⟩
    generalize a7.put (some 30) (.bool (!true)) = a8 at f8
    have c6 : CalmIn β w W6 := s6 c5
    refine wpIn_mono (Round.in (F := Fence.wide) (pins := [0, 1, 2]) (K := calmK P gl 31 β w W6) (i2 (2 * k) (by omega)) (.inl rfl) k2 (fun _ _ => rfl) hm (Sim.calm (ns := [2, 4]) hg c6 f8.size f8.defers (fun k' n v hn hv => by
      rcases k' with _ | _ | k'
      · cases hn; cases hv; rw [f8.t2]; exact h2.calm hcl2' c6
      · cases hn; cases hv; rw [f8.t4]; exact .int
      · simp at hn))) ?_
    rintro e a9 W9 ⟨rfl, ⟨β9, hs9⟩, hp9⟩
    have t4 : a9.tmps.getD 4 undef = .int .i64 ((2 * k : Nat) + 2) := rel_int_inv (hs9.slot 4)
    have f9 : ItFr y v1 v2 (2 * (k + 1)) a9 := ⟨hs9.size, hs9.defers.quiet rfl, (hp9 0 (by simp)).trans f8.t0, (hp9 1 (by simp)).trans f8.t1, (hp9 2 (by simp)).trans f8.t2, t4.trans (by congr 1)⟩
    have c9 := kept_calm c6 hs9.kept
    rw [fin k hkN] at j6
    have j9 := hJk _ _ _ j6 hs9.kept
    refine ⟨⟨k + 1, hkN, f9, c9, j9⟩, ?_⟩
    show (match a9.tmps.getD 4 undef with | .int _ i => (2 * N - i).toNat | _ => 0) < (match a2.tmps.getD 4 undef with | .int _ i => (2 * N - i).toNat | _ => 0)
    rw [f9.t4, f2.t4]
    show (2 * (N : Int) - ((2 * (k + 1) : Nat) : Int)).toNat < (2 * (N : Int) - ((2 * k : Nat) : Int)).toNat
    omega
  · show (if Region.wanted o11 _ = true then _ else _)
    rw [if_pos (wnt o11 _ hg11)]
    refine ⟨fun _ _ => trivial, ?_⟩
    show o11.uponIn _ _ _ _ _ _ ((execOp _ o11).run P W6)
    rw [e11, Oper.uponIn_value, hd11]
    generalize ha7 : a6.put (some 29) (.bool false) = a7
    have sz7 : a7.tmps.size = 31 := by rw [← ha7, put_size]; exact sz6
    have v30 : (a7.put (some 30) (.bool (!false))).eval (.tmp 30) = .bool true := put_same (by rw [sz7]; decide)
    refine wpIn_cond_true v30 (wpIn_ret ?_)
    refine ⟨by rw [← ha7]; exact d6, _, hres _ W6, ⟨_, rfl⟩, .inr ⟨_, trivial, jx6⟩⟩

theorem assign_in {P : Program} {id d p : Nat} {r : Array Oper} (hsz : r.size = 1) (h0 : (r[0]?).map (fun o => (o.dst, o.op, o.guard)) = some (some d, .assign (.tmp p), none)) (l : Nat) (a : Act) (W : World) (K : Act → World → Prop) (hK : K (a.put (some d) (a.tmps.getD p undef)) W) :
    (Code.region id r false).wpIn (Fence.wide.inRound l) 7 P (Exit.then K (fun _ _ _ => False)) a W := by
  refine wpIn_region ?_
  obtain ⟨o, ho, hd, hop, hg⟩ := op_at h0
  rw [hsz]
  show wpOpsIn _ _ _ _ _ [0] a W
  simp only [wpOpsIn, ho]
  rw [if_pos (by simp [Region.wanted, hg])]
  refine ⟨fun _ _ => trivial, ?_⟩
  rw [Oper.semAt_eq _ _ _ (fun c e => by rw [hop] at e; cases e)]
  have e : (execOp a.eval o).run P W = .ok (.value (a.tmps.getD p undef)) W := by
    simp only [execOp, hop, Sem.run_pure]
    rfl
  rw [e, Oper.uponIn_value, hd]
  exact hK

def rowP {N : Nat} (h : Nat → Nat → Int) (pre : List (Fin N)) (r : Nat) : Nat → Int := match pre[r]? with
  | some x => nodeF (h (2 * x.1)) (h (2 * x.1 + 1))
  | none => fun _ => 0

theorem rowP_ob {os : List (Option Ob)} {N : Nat} {h : Nat → Nat → Int} {pre : List (Fin N)} {x : Fin N} :
    ObEnt os ⟨32, pre.length + 1, true, .fn fun i j => .int .u8 (bif Nat.blt i pre.length then rowP h pre i j else intOfAV (atL (u8c (nodeF (h (2 * x.1 + 0)) (h (2 * x.1 + 1)))) j))⟩ ⟨32, (pre ++ [x]).length, true, .fn fun r j => .int .u8 (rowP h (pre ++ [x]) r j)⟩ := by
  refine ⟨rfl, by simp, rfl, fun i j hi hj => Ent.of_eq (congrArg (AV.int .u8) ?_)⟩
  have hi' : i < pre.length + 1 := hi
  unfold rowP
  by_cases hlt : i < pre.length
  · rw [blt_t hlt, List.getElem?_append_left hlt]; rfl
  · have : i = pre.length := by omega
    subst this
    rw [blt_f (Nat.le_refl _), List.getElem?_append_right (Nat.le_refl _), Nat.sub_self]
    show intOfAV (atL (u8c _) j) = _
    rw [u8c_at hj]; rfl
theorem rowP_fin {N : Nat} {h : Nat → Nat → Int} {r : Nat} (hr : r < N) : rowP h (List.finRange N) r = nodeF (h (2 * r)) (h (2 * r + 1)) := by
  unfold rowP
  simp [hr]

theorem lvl_ent {os : List (Option Ob)} {d x : Nat} {h : Nat → Nat → Int} : Ent os (.isl 32 (2 ^ (d - x - 1)) fun r k => .int .u8 (rowP (treF h x) (List.finRange (2 ^ (d - x - 1))) (r + 0) k)) (hsl (2 ^ (d - (x + 1))) (treF h (x + 1))) :=
  Ent.islN rfl fun i j hi hj => congrArg (AV.int .u8) (by
    show rowP (treF h x) (List.finRange (2 ^ (d - x - 1))) i j = treF h (x + 1) i j
    rw [rowP_fin hi]; rfl)

theorem ipt1_ent {os : List (Option Ob)} {a : AV} : Ent os (.ipt 1 fun k => atL [a] k) (.ipt 1 fun _ => a) := fun β w v _ h => by
  obtain ⟨b, off, vals, rfl, hm, hb, hc, hr, hcl, ho⟩ := rel_ipt_inv h
  have e : ∀ j, j < 1 → atL [a] j = a := fun j hj => by
    have : j = 0 := by omega
    subst this; rfl
  exact .ipt vals hm hb hc ho (fun j hj => by have := hr j hj; rwa [e j hj] at this) (fun j hj => by have := hcl j hj; rwa [e j hj] at this)
theorem fn2_ent {os : List (Option Ob)} {f : Fn} {a b a' b' : AV} (h1 : Ent os a a') (h2 : Ent os b b') : Ent os (.fn f [] [a, b]) (.fn f [] [a', b']) := fun β w v hh h => by
  cases h with
  | fn hl hr hl' hr' =>
    refine .fn hl hr hl' fun j u x hu hx => ?_
    rcases j with _ | _ | j
    · cases hu; exact h1 β w x hh (hr' 0 _ x rfl hx)
    · cases hu; exact h2 β w x hh (hr' 1 _ x rfl hx)
    · simp at hu

end Go.Sp

namespace Go.Proofs.YtdaaddkipdmajaaGreatDoor
open Go Go.Am Go.Sp
set_option maxRecDepth 100000

def cL : Code → Code | .seq a _ => a | c => c
def cR : Code → Code | .seq _ b => b | c => c
def cI : Code → Code | .block _ a => a | .loop a => a | c => c
def cO : Code → Array Oper | .region _ o _ => o | _ => #[]
noncomputable def itC : Code := Tryz.f269.body.getD .skip
noncomputable def itB : Code := cI (cI (cR itC))
noncomputable def itR1 : Code := cL (cL itB)
noncomputable def itR2 : Code := cR (cR itB)
noncomputable def itK : Code := cI (cL (cR itB))
noncomputable def itR3 : Code := cL itK
noncomputable def itR4 : Code := cL (cR itK)
theorem it_shape : itC = .seq (cL itC) (.block 0 (.loop (.seq (.seq itR1 (.cond (.tmp 9) .skip (.exit 0))) (.seq (.block 1 (.seq itR3 (.seq itR4 (.cond (.tmp 30) .ret .skip)))) itR2)))) := by kernel_rfl
theorem it_r4 : itR4 = .region 4 (cO itR4) false := by kernel_rfl

theorem it1 (N k : Nat) (hN : N ≤ 4000) (h : Nat → Nat → Int) : Round Tryz.prog gl0 ow0 0 31 itR1 (mkSt [1, 2, 4] [.ipt 1 fun _ => hsl N h, .ipt 1 fun _ => .int .i64 2, .int .i64 k] []) (mkSt [9] [.bool (decide ((k : Int) < N))] []) := by
  refine round_sk (own := ow0)
    (let y0 : List AV := [AV.bool (decide ((↑k : Int) < (↑N : Int)))]; (.again (fun (u : ASt) => Le 0 u (mkSt [9] y0 [])) ([9]) ([]) (y0) ([])))
    (by kernel_rfl) ?_
  exact k_againR (fun _ hs => hs.le (⟨.refl _, trivial⟩) (trivial))

theorem it3 (N k : Nat) (hN : N ≤ 4000) (h : Nat → Nat → Int) (hk : k + 2 ≤ N) : Round Tryz.prog gl0 ow0 0 31 itR3 (mkSt [1, 2, 4] [.ipt 1 fun _ => hsl N h, .ipt 1 fun _ => .int .i64 2, .int .i64 k] []) (mkSt [5] [.int .i64 2] []) := by
  refine round_sk (own := ow0)
    (.req ((0 : Int) ≤ (↑k : Int) ∧ (↑k : Int) ≤ (↑N : Int)) (.again (fun (u : ASt) => Le 0 u (mkSt [5] [Zi 2] [])) ([5]) ([]) ([Zi (if (↑(N - Int.toNat (↑k : Int)) : Int) < 2 then (↑(N - Int.toNat (↑k : Int)) : Int) else (2 : Int))]) ([])))
    (by kernel_rfl) ?_
  refine k_req (by omega) ?_
  exact k_againR (fun _ hs => hs.le (⟨.of_eq (congrArg _ (by omega)), trivial⟩) (trivial))

theorem it4 (y u : Value) (k : Nat) (hk : k ≤ 4000) : Round Tryz.prog gl0 ow0 0 31 (.region 4 ((cO itR4).extract 0 9) false) (mkSt [0, 1, 4, 5] [.raw y, .ipt 1 fun _ => .raw u, .int .i64 k, .int .i64 2] []) (mkSt [19, 20, 21, 24, 27] [.raw y, .raw u, .int .i64 k, .int .i64 (k + 2), .int .i64 (k + 2)] []) := by
  refine round_sk (own := ow0)
    (.again (fun (u_1 : ASt) => Le 0 u_1 (mkSt [19, 20, 21, 24, 27] [AV.raw y, AV.raw u, Zi (↑k : Int), Zi ((↑k : Int) + 2), Zi ((↑k : Int) + 2)] [])) ([19, 20, 21, 24, 27]) ([]) ([AV.raw y, AV.raw u, Zi (↑k : Int), Zi (IntKind.wrap IntKind.i64 ((↑k : Int) + 2)), Zi (IntKind.wrap IntKind.i64 ((↑k : Int) + 2))]) ([]))
    (by kernel_rfl) ?_
  exact k_againR (fun _ hs => hs.le (⟨.refl _, .refl _, .refl _, inc_ent (by omega), inc_ent (by omega), trivial⟩) (trivial))

theorem it2 (k : Nat) (hk : k ≤ 4000) : Round Tryz.prog gl0 ow0 0 31 itR2 (mkSt [2, 4] [.ipt 1 fun _ => .int .i64 2, .int .i64 k] []) (mkSt [4] [.int .i64 (k + 2)] []) := by
  refine round_sk (own := ow0)
    (.again (fun (u : ASt) => Le 0 u (mkSt [4] [Zi ((↑k : Int) + 2)] [])) ([4]) ([]) ([Zi (IntKind.wrap IntKind.i64 ((↑k : Int) + 2))]) ([]))
    (by kernel_rfl) ?_
  exact k_againR (fun _ hs => hs.le (⟨inc_ent (by omega), trivial⟩) (trivial))

theorem it0 : Round Tryz.prog gl0 ow0 0 31 (cL itC) (mkSt [] [] []) (mkSt [4] [.int .i64 0] []) := by
  refine round_sk (own := ow0)
    (.again (fun (u : ASt) => Le 0 u (mkSt [4] [Zi 0] [])) ([4]) ([]) ([Zi 0]) ([]))
    (by kernel_rfl) ?_
  exact k_againR (fun _ hs => hs.le (⟨.refl _, trivial⟩) (trivial))

theorem chunk_iter (N : Nat) (hN : 1 ≤ N) (hN' : N ≤ 1000) (h : Nat → Nat → Int) : Iter Tryz.prog gl0 269 [.ipt 1 fun _ => hsl (2 * N) h, .ipt 1 fun _ => .int .i64 2] N (fun k => hsl 2 fun r => h (2 * k.1 + r)) :=
  chunk_of (own := ow0) hN Tryz.func269 (by kernel_rfl : _ = some itC) (by kernel_rfl) (by kernel_rfl) (by kernel_rfl) mixed it_shape it_r4 (by kernel_rfl) (by kernel_rfl) (by kernel_rfl) (by kernel_rfl) (by kernel_rfl) (by kernel_rfl) (by kernel_rfl)
    (by kernel_rfl) (by kernel_rfl) (by kernel_rfl) (by kernel_rfl) (by kernel_rfl) it0 (fun k hk => it1 (2 * N) k (by omega) h) (fun k hk => it3 (2 * N) k (by omega) h hk) (fun y u k hk => it4 y u k (by omega)) (fun k hk => it2 k (by omega))

theorem chunk_c (N : Nat) (hN' : N ≤ 1000) (h : Nat → Nat → Int) : Pure Tryz.prog gl0 243 [hsl N h, .int .i64 2] (.fn (.func 269) [] [.ipt 1 fun _ => hsl N h, .ipt 1 fun _ => .int .i64 2]) := by
  refine pure_sk (own := ow0) Tryz.func243 (by kernel_rfl) mixed (by kernel_rfl)
    (.ff (.out (AV.fn (Fn.func 269) [] [AV.ipt 1 fun (k : Nat) => atL [AV.isl 32 N fun (i j : Nat) => Zb (h i j)] k, AV.ipt 1 fun (k : Nat) => atL [Zi 2] k]) [] (AV.fn (Fn.func (269 : FuncId)) [] [AV.ipt 1 fun (x : Nat) => hsl N h, AV.ipt 1 fun (x : Nat) => Zi 2]) []))
    (by kernel_rfl) ?_
  refine k_ff ?_
  exact k_out (fn2_ent ipt1_ent ipt1_ent)

end Go.Proofs.YtdaaddkipdmajaaGreatDoor
