/- Contracts of functions: part of the proof. -/
import Derived.Test.YtehcijjdibdljaaB1
import Derived.Test.YtehcijjdibdljaaProg
namespace Go.Proofs.Ytehcijjdibdljaa
open Go Go.Am Go.Sp
set_option maxRecDepth 100000

theorem containsS_c (S : Nat → Spend) (n : Nat) (hn : n < 9223372036854775808) : Pure Try.prog gl0 26 [.isl 80 n (fun i j => atL (S i).cells j), .fn (.func 54) [] []] (.bool (decide (firstI (fun i => !okS (S i)) n 0 ≥ 0))) := by
  refine pure_sk (own := ow0) Try.func26 (by kernel_rfl) mixed (by kernel_rfl)
    (.sc (true) 43 ([AV.isl (80) n fun (i j : Nat) => atL (Spend.cells (S i)) j, AV.fn (Fn.func (54 : FuncId)) [] []]) (AV.int IntKind.i64 (firstI (fun (i : Nat) => !okS (S i)) n (0 : Nat))) (.out (AV.bool (decide (firstI (fun (i : Nat) => !okS (S i)) n (0) ≥ (0 : Int)))) [] (AV.bool (decide (firstI (fun (i : Nat) => !okS (S i)) n (0 : Nat) ≥ (0 : Int)))) []))
    (by kernel_rfl) ?_
  refine k_sc ((indexS_c S n hn)) ?_
  exact k_out (Ent.refl _)

theorem formed_c (S : Nat → Spend) (n : Nat) (hn : n < 9223372036854775808) : Pure Try.prog gl0 50 [.isl 80 n (fun i j => atL (S i).cells j)] (.bool (!decide (firstI (fun i => !okS (S i)) n 0 ≥ 0))) := by
  refine pure_sk (own := ow0) Try.func50 (by kernel_rfl) mixed (by kernel_rfl)
    (.sc (true) 26 ([AV.isl (80) n fun (i j : Nat) => atL (Spend.cells (S i)) j, AV.fn (Fn.func (54 : Nat)) [] []]) (AV.bool (decide (firstI (fun (i : Nat) => !okS (S i)) n (0 : Nat) ≥ (0 : Int)))) (.out (AV.bool !decide (firstI (fun (i : Nat) => !okS (S i)) n (0) ≥ (0 : Int))) [] (AV.bool !decide (firstI (fun (i : Nat) => !okS (S i)) n (0 : Nat) ≥ (0 : Int))) []))
    (by kernel_rfl) ?_
  refine k_sc ((containsS_c S n hn)) ?_
  exact k_out (Ent.refl _)

theorem rplace_c (d l i : Int) : Pure Try.prog gl0 52 [.int .i64 d, .int .i64 l, .int .i64 i] (.bool (placeB d l i)) := by
  refine pure_sk (own := ow0) Try.func52 (by kernel_rfl) mixed (by kernel_rfl)
    (.req (((decide (l ≥ (0 : Int)) && decide (l ≤ d) && decide (i ≥ (0 : Int))) == true) = true → (0 : Int) ≤ l) (.out (AV.bool (decide (l ≥ (0 : Int)) && decide (l ≤ d) && decide (i ≥ (0 : Int)) && decide (i < IntKind.wrap IntKind.i64 ((1 : Int) * (2 : Int) ^ min (Int.toNat l) (64))))) [] (AV.bool (placeB d l i)) []))
    (by kernel_rfl) ?_
  refine k_req (fun hr => by have hr := (cnd_eqt_t (cnd_and_t (cnd_and_t cnd_dec_t cnd_dec_t) cnd_dec_t)) hr; first | omega | (simp only [Int.toNat_natCast] at *; omega)) ?_
  exact k_out (Ent.refl _)

theorem rnode_c (d l i : Int) : Pure Try.prog gl0 40 [.int .i64 d, .agg [.int .i64 l, .int .i64 i]] (.bool (nodeB d l i)) := by
  refine pure_sk (own := ow0) Try.func40 (by kernel_rfl) mixed (by kernel_rfl)
    (.sc ((decide (d ≥ (0 : Int)) && decide (d ≤ (5 : Int))) == true) 52 ([AV.int IntKind.i64 d, AV.int IntKind.i64 l, AV.int IntKind.i64 i]) (AV.bool (placeB d l i)) (.out (AV.bool (decide (d ≥ (0 : Int)) && decide (d ≤ (5 : Int)) && placeB d l i)) [] (AV.bool (nodeB d l i)) []))
    (by kernel_rfl) ?_
  refine k_scg (fun h0 => rplace_c (d) (l) (i)) ?_
  exact k_out (Ent.of_eq (congrArg _ (place_node d l i)))

theorem rctx_c (p : Nat → Int) (t n : Int) : Pure Try.prog gl0 41 [.agg [.int .u8 (p 0), .int .u8 (p 1), .int .u8 (p 2), .int .u8 (p 3), .int .u8 (p 4), .int .u8 (p 5), .int .u8 (p 6), .int .u8 (p 7), .int .u8 (p 8), .int .u8 (p 9), .int .u8 (p 10), .int .u8 (p 11), .int .u8 (p 12), .int .u8 (p 13), .int .u8 (p 14), .int .u8 (p 15), .int .u8 (p 16), .int .u8 (p 17), .int .u8 (p 18), .int .u8 (p 19), .int .u8 (p 20), .int .u8 (p 21), .int .u8 (p 22), .int .u8 (p 23), .int .u8 (p 24), .int .u8 (p 25), .int .u8 (p 26), .int .u8 (p 27), .int .u8 (p 28), .int .u8 (p 29), .int .u8 (p 30), .int .u8 (p 31), .int .i64 t, .int .i64 n]] (.bool (ctxB t n)) := by
  refine pure_sk (own := ow0) Try.func41 (by kernel_rfl) mixed (by kernel_rfl)
    (.out (AV.bool (decide (t ≥ (0 : Int)) && decide (t ≤ (1099511627776 : Int)) && decide (n ≥ (0 : Int)) && decide (n ≤ (1073741824 : Int)))) [] (AV.bool (ctxB t n)) [])
    (by kernel_rfl) ?_
  exact k_out (Ent.refl _)

theorem rspan_c (d l i : Int) (h : nodeB d l i = true) : Pure Try.prog gl0 42 [.int .i64 d, .agg [.int .i64 l, .int .i64 i]] (.tup [.int .i64 (spanA d l i), .int .i64 (spanZ d l i)]) := by
  refine pure_sk (own := ow0) Try.func42 (by kernel_rfl) mixed (by kernel_rfl)
    (.req ((0 : Int) ≤ IntKind.wrap IntKind.u64 (IntKind.wrap IntKind.i64 (d - l))) (.out (AV.tup [AV.int IntKind.i64 (IntKind.wrap IntKind.i64 (i * IntKind.wrap IntKind.i64 ((1 : Int) * (2 : Int) ^ min (Int.toNat (IntKind.wrap IntKind.u64 (IntKind.wrap IntKind.i64 (d - l)))) (64)))), AV.int IntKind.i64 (IntKind.wrap IntKind.i64 (IntKind.wrap IntKind.i64 (i + (1 : Int)) * IntKind.wrap IntKind.i64 ((1 : Int) * (2 : Int) ^ min (Int.toNat (IntKind.wrap IntKind.u64 (IntKind.wrap IntKind.i64 (d - l)))) (64))))]) [] (AV.tup [AV.int IntKind.i64 (spanA d l i), AV.int IntKind.i64 (spanZ d l i)]) []))
    (by kernel_rfl) ?_
  refine k_req (wU_nonneg _) ?_
  exact k_out (Ent.of_eq (by obtain ⟨a, b⟩ := rspan_m h; rw [a, b]))

theorem rformed_c (s : Spend) : Pure Try.prog gl0 22 [s.av] (.bool (okS s)) := by
  refine pure_sk (own := ow0) Try.func22 (by kernel_rfl) mixed (by kernel_rfl)
    (.sc ((decide (s.4 < (0 : Int)) || decide (s.4 > (5 : Int))) == false) 40 ([AV.int IntKind.i64 s.4, AV.agg [AV.int IntKind.i64 s.11, AV.int IntKind.i64 s.12]]) (AV.bool (nodeB s.4 s.11 s.12)) (.sc ((decide (s.4 < (0 : Int)) || decide (s.4 > (5 : Int)) || !nodeB s.4 s.11 s.12) == false) 41 ([AV.agg [AV.int IntKind.u8 (s.13 (0)), AV.int IntKind.u8 (s.13 (1)), AV.int IntKind.u8 (s.13 (2)), AV.int IntKind.u8 (s.13 (3)), AV.int IntKind.u8 (s.13 (4)), AV.int IntKind.u8 (s.13 (5)), AV.int IntKind.u8 (s.13 (6)), AV.int IntKind.u8 (s.13 (7)), AV.int IntKind.u8 (s.13 (8)), AV.int IntKind.u8 (s.13 (9)), AV.int IntKind.u8 (s.13 (10)), AV.int IntKind.u8 (s.13 (11)), AV.int IntKind.u8 (s.13 (12)), AV.int IntKind.u8 (s.13 (13)), AV.int IntKind.u8 (s.13 (14)), AV.int IntKind.u8 (s.13 (15)), AV.int IntKind.u8 (s.13 (16)), AV.int IntKind.u8 (s.13 (17)), AV.int IntKind.u8 (s.13 (18)), AV.int IntKind.u8 (s.13 (19)), AV.int IntKind.u8 (s.13 (20)), AV.int IntKind.u8 (s.13 (21)), AV.int IntKind.u8 (s.13 (22)), AV.int IntKind.u8 (s.13 (23)), AV.int IntKind.u8 (s.13 (24)), AV.int IntKind.u8 (s.13 (25)), AV.int IntKind.u8 (s.13 (26)), AV.int IntKind.u8 (s.13 (27)), AV.int IntKind.u8 (s.13 (28)), AV.int IntKind.u8 (s.13 (29)), AV.int IntKind.u8 (s.13 (30)), AV.int IntKind.u8 (s.13 (31)), AV.int IntKind.i64 s.14, AV.int IntKind.i64 s.15]]) (AV.bool (ctxB s.14 s.15)) (.br (decide (s.4 < (0 : Int)) || decide (s.4 > (5 : Int)) || !nodeB s.4 s.11 s.12 || !ctxB s.14 s.15) (.out (AV.bool false) [] (AV.bool (okS s)) []) (.sc (true) 42 ([AV.int IntKind.i64 s.4, AV.agg [AV.int IntKind.i64 s.11, AV.int IntKind.i64 s.12]]) (AV.tup [AV.int IntKind.i64 (spanA s.4 s.11 s.12), AV.int IntKind.i64 (spanZ s.4 s.11 s.12)]) (.out (AV.bool ((↑s.16 : Int) == IntKind.wrap IntKind.i64 (spanZ s.4 s.11 s.12 - spanA s.4 s.11 s.12))) [] (AV.bool (okS s)) [])))))
    (by kernel_rfl) ?_
  refine k_scg (fun h0 => rnode_c (s.4) (s.11) (s.12)) ?_
  refine k_scg (fun h1 => (rctx_c (Spend.payee s)) (s.14) (s.15)) ?_
  refine k_br (fun h2 => ?_) (fun h2 => ?_)
  · have g2 := (cnd_or_t (cnd_or_t (cnd_or_t cnd_dec_t cnd_dec_t) (cnd_not_t cnd_id_f)) (cnd_not_t cnd_id_f)) h2
    exact k_out (Ent.of_eq (by rw [okS_no h2]))
  · have g2 := (cnd_or_f (cnd_or_f (cnd_or_f cnd_dec_f cnd_dec_f) (cnd_not_f cnd_id_t)) (cnd_not_f cnd_id_t)) h2
    refine k_sc (rspan_c (s.4) (s.11) (s.12) ((okS_yes h2).1)) ?_
    exact k_out (Ent.of_eq (congrArg _ (okS_yes h2).2))

theorem cloneL_n : Gives Try.prog gl0 38 [] [.nsl] .nsl [] := by
  refine gives_sk (own := ow0) (hand := true) Try.func38 (by kernel_rfl) mixed (by kernel_rfl)
    (.tt (.out (AV.nsl) [] (AV.nsl) []))
    (by kernel_rfl) ?_
  refine k_tt ?_
  exact k_out (Ent.refl _)

theorem cloneL_s (f : Nat → Nat → Int) (n : Nat) (hn : n ≤ 1000) : Gives Try.prog gl0 38 [] [.nn (lvs n f)] (.osl 0 3 0 n) [some ⟨3, n, true, .fn fun i j => .int .i64 (f i j)⟩] := by
  refine gives_sk (own := ow0) (hand := true) Try.func38 (by kernel_rfl) mixed (by kernel_rfl)
    (.ff (.req ((0 + n) * 24 ≤ 140737488355328) (.out (AV.osl (0) (3) (0) (0 + n)) ([some { es := 3, n := 0 + n, mu := true, f := Rep.fn fun (i j : Nat) => AV.int IntKind.i64 (f i j) }]) (AV.osl (0 : Nat) (3 : Nat) (0 : Nat) n) ([some { es := (3 : Nat), n := n, mu := true, f := Rep.fn fun (i j : Nat) => AV.int IntKind.i64 (f i j) }]))))
    (by kernel_rfl) ?_
  refine k_ff ?_
  refine k_req (by first | omega | (simp only [Int.toNat_natCast]; omega)) ?_
  exact k_outg (Ent.of_eq (by simp)) (⟨⟨rfl, by simp, rfl, fun i j _ _ => Ent.of_eq (by simp)⟩, trivial⟩)

theorem cloneH_n : Gives Try.prog gl0 39 [] [.nsl] .nsl [] := by
  refine gives_sk (own := ow0) (hand := true) Try.func39 (by kernel_rfl) mixed (by kernel_rfl)
    (.tt (.out (AV.nsl) [] (AV.nsl) []))
    (by kernel_rfl) ?_
  refine k_tt ?_
  exact k_out (Ent.refl _)

theorem cloneH_s (f : Nat → Nat → Int) (n : Nat) (hn : n ≤ 1000) : Gives Try.prog gl0 39 [] [.nn (hss n f)] (.osl 0 32 0 n) [some ⟨32, n, true, .fn fun i j => .int .u8 (f i j)⟩] := by
  refine gives_sk (own := ow0) (hand := true) Try.func39 (by kernel_rfl) mixed (by kernel_rfl)
    (.ff (.req ((0 + n) * 32 ≤ 140737488355328) (.out (AV.osl (0) (32) (0) (0 + n)) ([some { es := 32, n := 0 + n, mu := true, f := Rep.fn fun (i j : Nat) => AV.int IntKind.u8 (f i j) }]) (AV.osl (0 : Nat) (32 : Nat) (0 : Nat) n) ([some { es := (32 : Nat), n := n, mu := true, f := Rep.fn fun (i j : Nat) => AV.int IntKind.u8 (f i j) }]))))
    (by kernel_rfl) ?_
  refine k_ff ?_
  refine k_req (by first | omega | (simp only [Int.toNat_natCast]; omega)) ?_
  exact k_outg (Ent.of_eq (by simp)) (⟨⟨rfl, by simp, rfl, fun i j _ _ => Ent.of_eq (by simp)⟩, trivial⟩)

theorem cloneL_c (f : Nat → Nat → Int) (n : Nat) (hn : n ≤ 1000) : Gives Try.prog gl0 38 [] [lvs n f] (.osl 0 3 0 n) [some ⟨3, n, true, .fn fun i j => .int .i64 (f i j)⟩] :=
  Gives.nilSplit [] [] 3 n _ (fun h => by subst h; exact cloneL_n.nil 3 _) (cloneL_s f n hn)

theorem cloneH_c (f : Nat → Nat → Int) (n : Nat) (hn : n ≤ 1000) : Gives Try.prog gl0 39 [] [hss n f] (.osl 0 32 0 n) [some ⟨32, n, true, .fn fun i j => .int .u8 (f i j)⟩] :=
  Gives.nilSplit [] [] 32 n _ (fun h => by subst h; exact cloneH_n.nil 32 _) (cloneH_s f n hn)

/-- Which functions hand over what they make. -/
def ow1 : FuncId → Option (List Bool) := fun f => bif Nat.beq f 38 || Nat.beq f 39 || Nat.beq f 21 || Nat.beq f 23 then some [false] else none

theorem copied_c (s : Spend) (hl : s.nl ≤ 1000) (hp : s.np ≤ 1000) : Gives Try.prog gl0 21 [] [s.av] (.agg (s.cw (.osl 0 3 0 s.nl) (.osl 1 32 0 s.np))) [some ⟨3, s.nl, true, .fn fun i j => .int .i64 (s.lf i j)⟩, some ⟨32, s.np, true, .fn fun i j => .int .u8 (s.pf i j)⟩] := by
  refine gives_sk (own := ow1) (hand := true) Try.func21 (by kernel_rfl) mixed (by kernel_rfl)
    (.gc 38 ([]) ([AV.isl (3) s.16 fun (i j : Nat) => AV.int IntKind.i64 (s.17 i j)]) (AV.osl (0 : Nat) (3 : Nat) (0 : Nat) s.16) ([some { es := (3 : Nat), n := s.16, mu := true, f := Rep.fn fun (i j : Nat) => AV.int IntKind.i64 (s.17 i j) }]) (.gc 39 ([]) ([AV.isl (32) s.19 fun (i j : Nat) => AV.int IntKind.u8 (s.20 i j)]) (AV.osl (0 : Nat) (32 : Nat) (0 : Nat) s.19) ([some { es := (32 : Nat), n := s.19, mu := true, f := Rep.fn fun (i j : Nat) => AV.int IntKind.u8 (s.20 i j) }]) (.out (AV.agg [AV.int IntKind.i64 s.1, AV.int IntKind.i64 s.2, AV.int IntKind.i64 s.3, AV.int IntKind.i64 s.4, AV.int IntKind.i64 s.5, AV.int IntKind.u8 (s.6 (0)), AV.int IntKind.u8 (s.6 (1)), AV.int IntKind.u8 (s.6 (2)), AV.int IntKind.u8 (s.6 (3)), AV.int IntKind.u8 (s.6 (4)), AV.int IntKind.u8 (s.6 (5)), AV.int IntKind.u8 (s.6 (6)), AV.int IntKind.u8 (s.6 (7)), AV.int IntKind.u8 (s.6 (8)), AV.int IntKind.u8 (s.6 (9)), AV.int IntKind.u8 (s.6 (10)), AV.int IntKind.u8 (s.6 (11)), AV.int IntKind.u8 (s.6 (12)), AV.int IntKind.u8 (s.6 (13)), AV.int IntKind.u8 (s.6 (14)), AV.int IntKind.u8 (s.6 (15)), AV.int IntKind.u8 (s.6 (16)), AV.int IntKind.u8 (s.6 (17)), AV.int IntKind.u8 (s.6 (18)), AV.int IntKind.u8 (s.6 (19)), AV.int IntKind.u8 (s.6 (20)), AV.int IntKind.u8 (s.6 (21)), AV.int IntKind.u8 (s.6 (22)), AV.int IntKind.u8 (s.6 (23)), AV.int IntKind.u8 (s.6 (24)), AV.int IntKind.u8 (s.6 (25)), AV.int IntKind.u8 (s.6 (26)), AV.int IntKind.u8 (s.6 (27)), AV.int IntKind.u8 (s.6 (28)), AV.int IntKind.u8 (s.6 (29)), AV.int IntKind.u8 (s.6 (30)), AV.int IntKind.u8 (s.6 (31)), AV.int IntKind.i64 s.7, AV.int IntKind.i64 s.8, AV.int IntKind.i64 s.9, AV.int IntKind.i64 s.10, AV.int IntKind.i64 s.11, AV.int IntKind.i64 s.12, AV.int IntKind.u8 (s.13 (0)), AV.int IntKind.u8 (s.13 (1)), AV.int IntKind.u8 (s.13 (2)), AV.int IntKind.u8 (s.13 (3)), AV.int IntKind.u8 (s.13 (4)), AV.int IntKind.u8 (s.13 (5)), AV.int IntKind.u8 (s.13 (6)), AV.int IntKind.u8 (s.13 (7)), AV.int IntKind.u8 (s.13 (8)), AV.int IntKind.u8 (s.13 (9)), AV.int IntKind.u8 (s.13 (10)), AV.int IntKind.u8 (s.13 (11)), AV.int IntKind.u8 (s.13 (12)), AV.int IntKind.u8 (s.13 (13)), AV.int IntKind.u8 (s.13 (14)), AV.int IntKind.u8 (s.13 (15)), AV.int IntKind.u8 (s.13 (16)), AV.int IntKind.u8 (s.13 (17)), AV.int IntKind.u8 (s.13 (18)), AV.int IntKind.u8 (s.13 (19)), AV.int IntKind.u8 (s.13 (20)), AV.int IntKind.u8 (s.13 (21)), AV.int IntKind.u8 (s.13 (22)), AV.int IntKind.u8 (s.13 (23)), AV.int IntKind.u8 (s.13 (24)), AV.int IntKind.u8 (s.13 (25)), AV.int IntKind.u8 (s.13 (26)), AV.int IntKind.u8 (s.13 (27)), AV.int IntKind.u8 (s.13 (28)), AV.int IntKind.u8 (s.13 (29)), AV.int IntKind.u8 (s.13 (30)), AV.int IntKind.u8 (s.13 (31)), AV.int IntKind.i64 s.14, AV.int IntKind.i64 s.15, AV.osl (0) (3) (0) s.16, AV.int IntKind.i64 s.18, AV.osl (1) (32) (0) s.19]) ([some { es := 3, n := s.16, mu := true, f := Rep.fn fun (i j : Nat) => AV.int IntKind.i64 (s.17 i j) }, some { es := 32, n := s.19, mu := true, f := Rep.fn fun (i j : Nat) => AV.int IntKind.u8 (s.20 i j) }]) (AV.agg (Spend.cw s (AV.osl (0 : Nat) (3 : Nat) (0 : Nat) (Spend.nl s)) (AV.osl (1 : Nat) (32 : Nat) (0 : Nat) (Spend.np s)))) ([some { es := (3 : Nat), n := Spend.nl s, mu := true, f := Rep.fn fun (i j : Nat) => AV.int IntKind.i64 (Spend.lf s i j) }, some { es := (32 : Nat), n := Spend.np s, mu := true, f := Rep.fn fun (i j : Nat) => AV.int IntKind.u8 (Spend.pf s i j) }]))))
    (by kernel_rfl) ?_
  refine k_gc (cloneL_c (s.17) (s.16) (by first | assumption | omega)) ?_
  refine k_gc (cloneH_c (s.20) (s.19) (by first | assumption | omega)) ?_
  exact k_outg (Ent.refl _) (ObsEnt.refl _)

end Go.Proofs.Ytehcijjdibdljaa
