/- Contracts of functions: part of the proof. -/
import Derived.Test.YtehcijjdibdljaaP2
import Derived.Test.YtehcijjdibdljaaProg
namespace Go.Proofs.Ytehcijjdibdljaa
open Go Go.Am Go.Sp
set_option maxRecDepth 100000

theorem containsLong_c (S : Nat → Spend) (n : Nat) (hn : n < 9223372036854775808) : Pure Try.prog gl0 26 [sps n S, .fn (.func 25) [] []] (.bool (anyI (fun i => !fewB (S i)) n)) := by
  refine pure_sk (own := ow0) Try.func26 (by kernel_rfl) mixed (by kernel_rfl)
    (.sc (true) 43 ([AV.isl (80) n fun (i j : Nat) => atL (Spend.cells (S i)) j, AV.fn (Fn.func (25 : FuncId)) [] []]) (AV.int IntKind.i64 (firstI (fun (i : Nat) => !fewB (S i)) n (0 : Nat))) (.out (AV.bool (decide (firstI (fun (i : Nat) => !fewB (S i)) n (0) ≥ (0 : Int)))) [] (AV.bool (anyI (fun (i : Nat) => !fewB (S i)) n)) []))
    (by kernel_rfl) ?_
  refine k_sc (indexLong_c (S) (n) (by first | assumption | omega)) ?_
  exact k_out (Ent.refl _)

theorem containsEsc_c (S : Nat → Esc) (n : Nat) (hn : n < 9223372036854775808) : Pure Try.prog gl0 27 [escs n S, .fn (.func 28) [] []] (.bool (anyI (fun i => longE (S i)) n)) := by
  refine pure_sk (own := ow0) Try.func27 (by kernel_rfl) mixed (by kernel_rfl)
    (.sc (true) 44 ([AV.isl (5) n fun (i j : Nat) => atL (Esc.cells (S i)) j, AV.fn (Fn.func (28 : FuncId)) [] []]) (AV.int IntKind.i64 (firstI (fun (i : Nat) => longE (S i)) n (0 : Nat))) (.out (AV.bool (decide (firstI (fun (i : Nat) => longE (S i)) n (0) ≥ (0 : Int)))) [] (AV.bool (anyI (fun (i : Nat) => longE (S i)) n)) []))
    (by kernel_rfl) ?_
  refine k_sc (indexEsc_c (S) (n) (by first | assumption | omega)) ?_
  exact k_out (Ent.refl _)

theorem longC_c (h : Chn) (hn : h.n < 9223372036854775808) : Pure Try.prog gl0 30 [h.av, .ipt 1 (atL [.fn (.func 25) [] []])] (.bool (longC h)) := by
  refine pure_sk (own := ow0) Try.func30 (by kernel_rfl) mixed (by kernel_rfl)
    (.sc (decide ((↑h.2 : Int) > (10 : Int)) == false) 25 ([AV.agg [AV.int IntKind.i64 (Chn.first h).1, AV.int IntKind.i64 (Chn.first h).2, AV.int IntKind.i64 (Chn.first h).3, AV.int IntKind.i64 (Chn.first h).4, AV.int IntKind.i64 (Chn.first h).5, AV.int IntKind.u8 ((Chn.first h).6 (0)), AV.int IntKind.u8 ((Chn.first h).6 (1)), AV.int IntKind.u8 ((Chn.first h).6 (2)), AV.int IntKind.u8 ((Chn.first h).6 (3)), AV.int IntKind.u8 ((Chn.first h).6 (4)), AV.int IntKind.u8 ((Chn.first h).6 (5)), AV.int IntKind.u8 ((Chn.first h).6 (6)), AV.int IntKind.u8 ((Chn.first h).6 (7)), AV.int IntKind.u8 ((Chn.first h).6 (8)), AV.int IntKind.u8 ((Chn.first h).6 (9)), AV.int IntKind.u8 ((Chn.first h).6 (10)), AV.int IntKind.u8 ((Chn.first h).6 (11)), AV.int IntKind.u8 ((Chn.first h).6 (12)), AV.int IntKind.u8 ((Chn.first h).6 (13)), AV.int IntKind.u8 ((Chn.first h).6 (14)), AV.int IntKind.u8 ((Chn.first h).6 (15)), AV.int IntKind.u8 ((Chn.first h).6 (16)), AV.int IntKind.u8 ((Chn.first h).6 (17)), AV.int IntKind.u8 ((Chn.first h).6 (18)), AV.int IntKind.u8 ((Chn.first h).6 (19)), AV.int IntKind.u8 ((Chn.first h).6 (20)), AV.int IntKind.u8 ((Chn.first h).6 (21)), AV.int IntKind.u8 ((Chn.first h).6 (22)), AV.int IntKind.u8 ((Chn.first h).6 (23)), AV.int IntKind.u8 ((Chn.first h).6 (24)), AV.int IntKind.u8 ((Chn.first h).6 (25)), AV.int IntKind.u8 ((Chn.first h).6 (26)), AV.int IntKind.u8 ((Chn.first h).6 (27)), AV.int IntKind.u8 ((Chn.first h).6 (28)), AV.int IntKind.u8 ((Chn.first h).6 (29)), AV.int IntKind.u8 ((Chn.first h).6 (30)), AV.int IntKind.u8 ((Chn.first h).6 (31)), AV.int IntKind.i64 (Chn.first h).7, AV.int IntKind.i64 (Chn.first h).8, AV.int IntKind.i64 (Chn.first h).9, AV.int IntKind.i64 (Chn.first h).10, AV.int IntKind.i64 (Chn.first h).11, AV.int IntKind.i64 (Chn.first h).12, AV.int IntKind.u8 ((Chn.first h).13 (0)), AV.int IntKind.u8 ((Chn.first h).13 (1)), AV.int IntKind.u8 ((Chn.first h).13 (2)), AV.int IntKind.u8 ((Chn.first h).13 (3)), AV.int IntKind.u8 ((Chn.first h).13 (4)), AV.int IntKind.u8 ((Chn.first h).13 (5)), AV.int IntKind.u8 ((Chn.first h).13 (6)), AV.int IntKind.u8 ((Chn.first h).13 (7)), AV.int IntKind.u8 ((Chn.first h).13 (8)), AV.int IntKind.u8 ((Chn.first h).13 (9)), AV.int IntKind.u8 ((Chn.first h).13 (10)), AV.int IntKind.u8 ((Chn.first h).13 (11)), AV.int IntKind.u8 ((Chn.first h).13 (12)), AV.int IntKind.u8 ((Chn.first h).13 (13)), AV.int IntKind.u8 ((Chn.first h).13 (14)), AV.int IntKind.u8 ((Chn.first h).13 (15)), AV.int IntKind.u8 ((Chn.first h).13 (16)), AV.int IntKind.u8 ((Chn.first h).13 (17)), AV.int IntKind.u8 ((Chn.first h).13 (18)), AV.int IntKind.u8 ((Chn.first h).13 (19)), AV.int IntKind.u8 ((Chn.first h).13 (20)), AV.int IntKind.u8 ((Chn.first h).13 (21)), AV.int IntKind.u8 ((Chn.first h).13 (22)), AV.int IntKind.u8 ((Chn.first h).13 (23)), AV.int IntKind.u8 ((Chn.first h).13 (24)), AV.int IntKind.u8 ((Chn.first h).13 (25)), AV.int IntKind.u8 ((Chn.first h).13 (26)), AV.int IntKind.u8 ((Chn.first h).13 (27)), AV.int IntKind.u8 ((Chn.first h).13 (28)), AV.int IntKind.u8 ((Chn.first h).13 (29)), AV.int IntKind.u8 ((Chn.first h).13 (30)), AV.int IntKind.u8 ((Chn.first h).13 (31)), AV.int IntKind.i64 (Chn.first h).14, AV.int IntKind.i64 (Chn.first h).15, AV.isl (3) (Chn.first h).16 fun (i j : Nat) => AV.int IntKind.i64 ((Chn.first h).17 i j), AV.int IntKind.i64 (Chn.first h).18, AV.isl (32) (Chn.first h).19 fun (i j : Nat) => AV.int IntKind.u8 ((Chn.first h).20 i j)]]) (AV.bool !fewB (Chn.first h)) (.sc ((decide ((↑h.2 : Int) > (10 : Int)) || !fewB h.1) == false) 26 ([AV.isl (80) h.2 fun (i j : Nat) => atL (Spend.cells (Chn.l h i)) j, AV.fn (Fn.func (25 : FuncId)) [] []]) (AV.bool (anyI (fun (i : Nat) => !fewB (Chn.l h i)) h.2)) (.out (AV.bool (decide ((↑h.2 : Int) > (10 : Int)) || !fewB h.1 || anyI (fun (i : Nat) => !fewB (h.3 i)) h.2)) [] (AV.bool (longC h)) [])))
    (by kernel_rfl) ?_
  refine k_scg (fun h0 => long_c (Chn.first h)) ?_
  refine k_scg (fun h1 => containsLong_c (Chn.l h) (h.2) (by first | assumption | omega)) ?_
  exact k_out (Ent.refl _)

end Go.Proofs.Ytehcijjdibdljaa
