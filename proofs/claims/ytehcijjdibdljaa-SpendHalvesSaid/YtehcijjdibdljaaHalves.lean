import Derived.Test.YtehcijjdibdljaaProg
import Derived.Test.YtehcijjdibdljaaHalvesMath
namespace Go.Proofs.Ytehcijjdibdljaa
open Go Go.Am
set_option maxRecDepth 100000

def gl0 : Globs := fun _ => none
theorem mixed : Try.prog.follows .mixedOrders = true := by kernel_rfl

abbrev kr (v d : Int) : AV := .agg [.int .i64 0, .int .i64 0, .int .i64 0, .int .i64 v, .int .i64 d, .int .i64 0, .int .i64 0, .int .i64 0, .int .i64 0, .int .i64 0, .int .i64 0]
abbrev b0 : AV := .int .u8 0
abbrev i0 : AV := .int .i64 0
abbrev sp (l i : Int) : AV := .agg [i0, i0, i0, i0, i0, b0, b0, b0, b0, b0, b0, b0, b0, b0, b0, b0, b0, b0, b0, b0, b0, b0, b0, b0, b0, b0, b0, b0, b0, b0, b0, b0, b0, b0, b0, b0, b0,
  i0, i0, i0, i0, .int .i64 l, .int .i64 i, b0, b0, b0, b0, b0, b0, b0, b0, b0, b0, b0, b0, b0, b0, b0, b0, b0, b0, b0, b0, b0, b0, b0, b0, b0, b0, b0, b0, b0, b0, b0, b0, i0, i0, .nsl, i0, .nsl]

theorem node_c (d l i : Int) : Pure Try.prog gl0 18 [.int .i64 d, .agg [.int .i64 l, .int .i64 i]] (.bool (nodeB d l i)) := by
  refine pure_walk Try.func18 (by kernel_rfl) mixed (by kernel_rfl) ?_
  refine wp_req (by kernel_rfl) (p := ((decide (d ≥ 0) && decide (d ≤ 5) && decide (l ≥ 0) && decide (l ≤ d) && decide (i ≥ 0)) == true) = true → 0 ≤ l) (by kernel_rfl) (by first | omega | (intro h; simp at h; omega)) ?_
  refine wp_out (by kernel_rfl) (x := AV.bool (decide (d ≥ 0) && decide (d ≤ 5) && decide (l ≥ 0) && decide (l ≤ d) && decide (i ≥ 0) && decide (i < IntKind.wrap IntKind.i64 (1 * 2 ^ min (Int.toNat l) 64)))) (r := AV.bool (nodeB d l i)) (by kernel_rfl) (by kernel_rfl) (Ent.of_eq (congrArg _ (node_m d l i)))

theorem span_c (d l i : Int) : Pure Try.prog gl0 7 [.int .i64 d, .agg [.int .i64 l, .int .i64 i]] (.tup [.int .i64 (spanA d l i), .int .i64 (spanZ d l i), .int .i64 (spanE d l i)]) := by
  refine pure_walk Try.func7 (by kernel_rfl) mixed (by kernel_rfl) ?_
  refine wp_br (by kernel_rfl) (b := decide (d < 0) || decide (d > 5)) (by kernel_rfl) (fun h0 => ?_) (fun h0 => ?_)
  · refine wp_out (by kernel_rfl) (x := AV.tup [AV.int IntKind.i64 0, AV.int IntKind.i64 0, AV.int IntKind.i64 1]) (r := AV.tup [AV.int IntKind.i64 (spanA d l i), AV.int IntKind.i64 (spanZ d l i), AV.int IntKind.i64 (spanE d l i)]) (by kernel_rfl) (by kernel_rfl) (Ent.of_eq (by obtain ⟨a, b, c⟩ := span_1 (l := l) (i := i) h0; rw [a, b, c]))
  · refine wp_sc (by kernel_rfl) _ (node_c (d) (l) (i)) (by kernel_rfl) (by kernel_rfl) (by kernel_rfl) ?_
    refine wp_br (by kernel_rfl) (b := !nodeB d l i) (by kernel_rfl) (fun h3 => ?_) (fun h3 => ?_)
    · refine wp_out (by kernel_rfl) (x := AV.tup [AV.int IntKind.i64 0, AV.int IntKind.i64 0, AV.int IntKind.i64 2]) (r := AV.tup [AV.int IntKind.i64 (spanA d l i), AV.int IntKind.i64 (spanZ d l i), AV.int IntKind.i64 (spanE d l i)]) (by kernel_rfl) (by kernel_rfl) (Ent.of_eq (by obtain ⟨a, b, c⟩ := span_2 h0 h3; rw [a, b, c]))
    · refine wp_req (by kernel_rfl) (p := 0 ≤ IntKind.wrap IntKind.i64 (d - l)) (by kernel_rfl) ((span_3 h3).2.2.2) ?_
      refine wp_out (by kernel_rfl) (x := AV.tup [AV.int IntKind.i64 (IntKind.wrap IntKind.i64 (i * IntKind.wrap IntKind.i64 (1 * 2 ^ min (Int.toNat (IntKind.wrap IntKind.i64 (d - l))) 64))), AV.int IntKind.i64 (IntKind.wrap IntKind.i64 (IntKind.wrap IntKind.i64 (i + 1) * IntKind.wrap IntKind.i64 (1 * 2 ^ min (Int.toNat (IntKind.wrap IntKind.i64 (d - l))) 64))), AV.int IntKind.i64 0]) (r := AV.tup [AV.int IntKind.i64 (spanA d l i), AV.int IntKind.i64 (spanZ d l i), AV.int IntKind.i64 (spanE d l i)]) (by kernel_rfl) (by kernel_rfl) (Ent.of_eq (by obtain ⟨a, b, c, _⟩ := span_3 h3; rw [a, b, c]))

theorem amount_c (v d l i : Int) : Pure Try.prog gl0 8 [kr v d, sp l i] (.tup [.int .i64 (am v d l i), .int .i64 (amE v d l i)]) := by
  refine pure_walk Try.func8 (by kernel_rfl) mixed (by kernel_rfl) ?_
  refine wp_br (by kernel_rfl) (b := decide (v < 0) || decide (v > 1099511627776) || decide (d < 0) || decide (d > 5)) (by kernel_rfl) (fun h0 => ?_) (fun h0 => ?_)
  · refine wp_out (by kernel_rfl) (x := AV.tup [AV.int IntKind.i64 0, AV.int IntKind.i64 1]) (r := AV.tup [AV.int IntKind.i64 (am v d l i), AV.int IntKind.i64 (amE v d l i)]) (by kernel_rfl) (by kernel_rfl) (Ent.of_eq (by obtain ⟨a, b⟩ := am_1 (l := l) (i := i) h0; rw [a, b]))
  · refine wp_sc (by kernel_rfl) _ (node_c (d) (l) (i)) (by kernel_rfl) (by kernel_rfl) (by kernel_rfl) ?_
    refine wp_br (by kernel_rfl) (b := !nodeB d l i) (by kernel_rfl) (fun h3 => ?_) (fun h3 => ?_)
    · refine wp_out (by kernel_rfl) (x := AV.tup [AV.int IntKind.i64 0, AV.int IntKind.i64 2]) (r := AV.tup [AV.int IntKind.i64 (am v d l i), AV.int IntKind.i64 (amE v d l i)]) (by kernel_rfl) (by kernel_rfl) (Ent.of_eq (by obtain ⟨a, b⟩ := am_2 h0 h3; rw [a, b]))
    · refine wp_req (by kernel_rfl) (p := 0 ≤ l) (by kernel_rfl) ((am_3 h0 h3).2.2) ?_
      refine wp_out (by kernel_rfl) (x := AV.tup [AV.int IntKind.i64 (Int.fdiv v (2 ^ min (Int.toNat l) 64)), AV.int IntKind.i64 0]) (r := AV.tup [AV.int IntKind.i64 (am v d l i), AV.int IntKind.i64 (amE v d l i)]) (by kernel_rfl) (by kernel_rfl) (Ent.of_eq (by obtain ⟨a, b, _⟩ := am_3 h0 h3; rw [a, b]))

theorem awake_c : Pure Try.prog gl0 6 [] (.bool true) := by
  refine pure_walk Try.func6 (by kernel_rfl) mixed (by kernel_rfl) ?_
  refine wp_sc (by kernel_rfl) _ (span_c (2) (1) (1)) (by kernel_rfl) (by kernel_rfl) (by kernel_rfl) ?_
  refine wp_sc (by kernel_rfl) _ (amount_c (8) (2) (1) (1)) (by kernel_rfl) (by kernel_rfl) (by kernel_rfl) ?_
  refine wp_out (by kernel_rfl) (x := AV.bool true) (r := AV.bool true) (by kernel_rfl) (by kernel_rfl) (Ent.refl _)

theorem halves_c (d l i : Int) (v : Int) (hv : 0 ≤ v) (hv' : v ≤ 4294967295) : Pure Try.prog gl0 3 [.int .i64 d, .agg [.int .i64 l, .int .i64 i], .int .u32 v] (.bool true) := by
  refine pure_walk Try.func3 (by kernel_rfl) mixed (by kernel_rfl) ?_
  refine wp_sc (by kernel_rfl) _ (awake_c) (by kernel_rfl) (by kernel_rfl) (by kernel_rfl) ?_
  refine wp_ff (by kernel_rfl) (by kernel_rfl) ?_
  refine wp_sc (by kernel_rfl) _ (span_c (d) (l) (i)) (by kernel_rfl) (by kernel_rfl) (by kernel_rfl) ?_
  refine wp_br (by kernel_rfl) (b := spanE d l i != 0) (by kernel_rfl) (fun h3 => ?_) (fun h3 => ?_)
  · refine wp_out (by kernel_rfl) (x := AV.bool (spanA d l i == 0 && spanZ d l i == 0)) (r := AV.bool true) (by kernel_rfl) (by kernel_rfl) (Ent.of_eq (halves_0 h3))
  · refine wp_req (by kernel_rfl) (p := 0 ≤ d) (by kernel_rfl) ((halves_d h3)) ?_
    refine wp_sc (by kernel_rfl) _ (amount_c (IntKind.wrap IntKind.i64 (IntKind.wrap IntKind.i64 v * 2 ^ min (Int.toNat d) 64)) (d) (l) (i)) (by kernel_rfl) (by kernel_rfl) (by kernel_rfl) ?_
    refine wp_sc (by kernel_rfl) _ (amount_c (IntKind.wrap IntKind.i64 (IntKind.wrap IntKind.i64 v * 2 ^ min (Int.toNat d) 64)) (d) (0) (0)) (by kernel_rfl) (by kernel_rfl) (by kernel_rfl) ?_
    refine wp_sc (by kernel_rfl) _ (span_c (d) (0) (0)) (by kernel_rfl) (by kernel_rfl) (by kernel_rfl) ?_
    refine wp_req (by kernel_rfl) (p := ((amE (IntKind.wrap IntKind.i64 (IntKind.wrap IntKind.i64 v * 2 ^ min (Int.toNat d) 64)) d l i != 0 || amE (IntKind.wrap IntKind.i64 (IntKind.wrap IntKind.i64 v * 2 ^ min (Int.toNat d) 64)) d 0 0 != 0 || spanE d 0 0 != 0 || am (IntKind.wrap IntKind.i64 (IntKind.wrap IntKind.i64 v * 2 ^ min (Int.toNat d) 64)) d 0 0 != IntKind.wrap IntKind.i64 (IntKind.wrap IntKind.i64 v * 2 ^ min (Int.toNat d) 64) || spanA d 0 0 != 0) == false) = true → 0 ≤ d) (by kernel_rfl) (fun _ => halves_d h3) ?_
    refine wp_br (by kernel_rfl) (b := amE (IntKind.wrap IntKind.i64 (IntKind.wrap IntKind.i64 v * 2 ^ min (Int.toNat d) 64)) d l i != 0 || amE (IntKind.wrap IntKind.i64 (IntKind.wrap IntKind.i64 v * 2 ^ min (Int.toNat d) 64)) d 0 0 != 0 || spanE d 0 0 != 0 || am (IntKind.wrap IntKind.i64 (IntKind.wrap IntKind.i64 v * 2 ^ min (Int.toNat d) 64)) d 0 0 != IntKind.wrap IntKind.i64 (IntKind.wrap IntKind.i64 v * 2 ^ min (Int.toNat d) 64) || spanA d 0 0 != 0 || spanZ d 0 0 != IntKind.wrap IntKind.i64 (1 * 2 ^ min (Int.toNat d) 64) || am (IntKind.wrap IntKind.i64 (IntKind.wrap IntKind.i64 v * 2 ^ min (Int.toNat d) 64)) d l i != IntKind.wrap IntKind.i64 (IntKind.wrap IntKind.i64 v * IntKind.wrap IntKind.i64 (spanZ d l i - spanA d l i))) (by kernel_rfl) (fun h10 => ?_) (fun h10 => ?_)
    · refine wp_out (by kernel_rfl) (x := AV.bool false) (r := AV.bool true) (by kernel_rfl) (by kernel_rfl) (absurd h10 (by rw [halves_1 hv hv' h3]; exact Bool.false_ne_true))
    · refine wp_sc (by kernel_rfl) _ (span_c (d) (IntKind.wrap IntKind.i64 (l + 1)) (IntKind.wrap IntKind.i64 (2 * i))) (by kernel_rfl) (by kernel_rfl) (by kernel_rfl) ?_
      refine wp_sc (by kernel_rfl) _ (span_c (d) (IntKind.wrap IntKind.i64 (l + 1)) (IntKind.wrap IntKind.i64 (IntKind.wrap IntKind.i64 (2 * i) + 1))) (by kernel_rfl) (by kernel_rfl) (by kernel_rfl) ?_
      refine wp_br (by kernel_rfl) (b := l == d) (by kernel_rfl) (fun h14 => ?_) (fun h14 => ?_)
      · refine wp_out (by kernel_rfl) (x := AV.bool (spanE d (IntKind.wrap IntKind.i64 (l + 1)) (IntKind.wrap IntKind.i64 (2 * i)) == 2 && spanE d (IntKind.wrap IntKind.i64 (l + 1)) (IntKind.wrap IntKind.i64 (IntKind.wrap IntKind.i64 (2 * i) + 1)) == 2 && spanZ d l i == IntKind.wrap IntKind.i64 (spanA d l i + 1))) (r := AV.bool true) (by kernel_rfl) (by kernel_rfl) (Ent.of_eq (halves_2 hv hv' h3 h14))
      · refine wp_sc (by kernel_rfl) _ (amount_c (IntKind.wrap IntKind.i64 (IntKind.wrap IntKind.i64 v * 2 ^ min (Int.toNat d) 64)) (d) (IntKind.wrap IntKind.i64 (l + 1)) (IntKind.wrap IntKind.i64 (2 * i))) (by kernel_rfl) (by kernel_rfl) (by kernel_rfl) ?_
        refine wp_sc (by kernel_rfl) _ (amount_c (IntKind.wrap IntKind.i64 (IntKind.wrap IntKind.i64 v * 2 ^ min (Int.toNat d) 64)) (d) (IntKind.wrap IntKind.i64 (l + 1)) (IntKind.wrap IntKind.i64 (IntKind.wrap IntKind.i64 (2 * i) + 1))) (by kernel_rfl) (by kernel_rfl) (by kernel_rfl) ?_
        refine wp_out (by kernel_rfl) (x := AV.bool (spanE d (IntKind.wrap IntKind.i64 (l + 1)) (IntKind.wrap IntKind.i64 (2 * i)) == 0 && spanE d (IntKind.wrap IntKind.i64 (l + 1)) (IntKind.wrap IntKind.i64 (IntKind.wrap IntKind.i64 (2 * i) + 1)) == 0 && spanA d (IntKind.wrap IntKind.i64 (l + 1)) (IntKind.wrap IntKind.i64 (2 * i)) == spanA d l i && spanZ d (IntKind.wrap IntKind.i64 (l + 1)) (IntKind.wrap IntKind.i64 (2 * i)) == spanA d (IntKind.wrap IntKind.i64 (l + 1)) (IntKind.wrap IntKind.i64 (IntKind.wrap IntKind.i64 (2 * i) + 1)) && spanZ d (IntKind.wrap IntKind.i64 (l + 1)) (IntKind.wrap IntKind.i64 (IntKind.wrap IntKind.i64 (2 * i) + 1)) == spanZ d l i && amE (IntKind.wrap IntKind.i64 (IntKind.wrap IntKind.i64 v * 2 ^ min (Int.toNat d) 64)) d (IntKind.wrap IntKind.i64 (l + 1)) (IntKind.wrap IntKind.i64 (2 * i)) == 0 && amE (IntKind.wrap IntKind.i64 (IntKind.wrap IntKind.i64 v * 2 ^ min (Int.toNat d) 64)) d (IntKind.wrap IntKind.i64 (l + 1)) (IntKind.wrap IntKind.i64 (IntKind.wrap IntKind.i64 (2 * i) + 1)) == 0 && am (IntKind.wrap IntKind.i64 (IntKind.wrap IntKind.i64 v * 2 ^ min (Int.toNat d) 64)) d (IntKind.wrap IntKind.i64 (l + 1)) (IntKind.wrap IntKind.i64 (2 * i)) == am (IntKind.wrap IntKind.i64 (IntKind.wrap IntKind.i64 v * 2 ^ min (Int.toNat d) 64)) d (IntKind.wrap IntKind.i64 (l + 1)) (IntKind.wrap IntKind.i64 (IntKind.wrap IntKind.i64 (2 * i) + 1)) && IntKind.wrap IntKind.i64 (am (IntKind.wrap IntKind.i64 (IntKind.wrap IntKind.i64 v * 2 ^ min (Int.toNat d) 64)) d (IntKind.wrap IntKind.i64 (l + 1)) (IntKind.wrap IntKind.i64 (2 * i)) + am (IntKind.wrap IntKind.i64 (IntKind.wrap IntKind.i64 v * 2 ^ min (Int.toNat d) 64)) d (IntKind.wrap IntKind.i64 (l + 1)) (IntKind.wrap IntKind.i64 (IntKind.wrap IntKind.i64 (2 * i) + 1))) == am (IntKind.wrap IntKind.i64 (IntKind.wrap IntKind.i64 v * 2 ^ min (Int.toNat d) 64)) d l i)) (r := AV.bool true) (by kernel_rfl) (by kernel_rfl) (Ent.of_eq (halves_3 hv hv' h3 h14))
end Go.Proofs.Ytehcijjdibdljaa
