/- Contracts of functions: part of the proof. -/
import Derived.Test.YtehcijjdibdljaaP4
import Derived.Test.YtehcijjdibdljaaP5
import Derived.Test.YtehcijjdibdljaaP6
import Derived.Test.YtehcijjdibdljaaB5
import Derived.Test.YtehcijjdibdljaaProg
namespace Go.Proofs.Ytehcijjdibdljaa
open Go Go.Am Go.Sp
set_option maxRecDepth 100000

theorem kinds_c : Pure Try.prog gl0 19 [] (.int .i64 12) := by
  refine pure_sk (own := ow0) Try.func19 (by kernel_rfl) mixed (by kernel_rfl)
    (.out (AV.int IntKind.i64 (12 : Int)) [] (AV.int IntKind.i64 (12 : Int)) [])
    (by kernel_rfl) ?_
  exact k_out (Ent.of_eq (by first | rfl | simp_all))

theorem alter4_c (k : Int) : Pure Try.prog gl0 11 [.agg (Spend.zero.cw (.isl 3 1 fun r k => atL (List.getD [[.int .i64 4, .int .i64 0, .int .i64 0]] r []) k) .nsl), .int .i64 k, .int .i64 1] (.tup [(altS .leaf4 k 1).av, .int .i64 (altE .leaf4 k 1)]) := by
  refine Pure.via (alter_c .leaf4 k 1 (by decide) (by decide)) ?_
  exact ⟨Ent.agg leaf4_ent, Ent.refl _, Ent.refl _, trivial⟩

theorem awake53_c : Pure Try.prog gl0 9 [] (.bool true) := by
  refine pure_sk (own := ow0) Try.func9 (by kernel_rfl) mixed (by kernel_rfl)
    (.dc (true) 11 ([AV.agg [AV.int IntKind.i64 (0 : Int), AV.int IntKind.i64 (0 : Int), AV.int IntKind.i64 (0 : Int), AV.int IntKind.i64 (0 : Int), AV.int IntKind.i64 (0 : Int), AV.int IntKind.u8 (0 : Int), AV.int IntKind.u8 (0 : Int), AV.int IntKind.u8 (0 : Int), AV.int IntKind.u8 (0 : Int), AV.int IntKind.u8 (0 : Int), AV.int IntKind.u8 (0 : Int), AV.int IntKind.u8 (0 : Int), AV.int IntKind.u8 (0 : Int), AV.int IntKind.u8 (0 : Int), AV.int IntKind.u8 (0 : Int), AV.int IntKind.u8 (0 : Int), AV.int IntKind.u8 (0 : Int), AV.int IntKind.u8 (0 : Int), AV.int IntKind.u8 (0 : Int), AV.int IntKind.u8 (0 : Int), AV.int IntKind.u8 (0 : Int), AV.int IntKind.u8 (0 : Int), AV.int IntKind.u8 (0 : Int), AV.int IntKind.u8 (0 : Int), AV.int IntKind.u8 (0 : Int), AV.int IntKind.u8 (0 : Int), AV.int IntKind.u8 (0 : Int), AV.int IntKind.u8 (0 : Int), AV.int IntKind.u8 (0 : Int), AV.int IntKind.u8 (0 : Int), AV.int IntKind.u8 (0 : Int), AV.int IntKind.u8 (0 : Int), AV.int IntKind.u8 (0 : Int), AV.int IntKind.u8 (0 : Int), AV.int IntKind.u8 (0 : Int), AV.int IntKind.u8 (0 : Int), AV.int IntKind.u8 (0 : Int), AV.int IntKind.i64 (0 : Int), AV.int IntKind.i64 (0 : Int), AV.int IntKind.i64 (0 : Int), AV.int IntKind.i64 (0 : Int), AV.int IntKind.i64 (0 : Int), AV.int IntKind.i64 (0 : Int), AV.int IntKind.u8 (0 : Int), AV.int IntKind.u8 (0 : Int), AV.int IntKind.u8 (0 : Int), AV.int IntKind.u8 (0 : Int), AV.int IntKind.u8 (0 : Int), AV.int IntKind.u8 (0 : Int), AV.int IntKind.u8 (0 : Int), AV.int IntKind.u8 (0 : Int), AV.int IntKind.u8 (0 : Int), AV.int IntKind.u8 (0 : Int), AV.int IntKind.u8 (0 : Int), AV.int IntKind.u8 (0 : Int), AV.int IntKind.u8 (0 : Int), AV.int IntKind.u8 (0 : Int), AV.int IntKind.u8 (0 : Int), AV.int IntKind.u8 (0 : Int), AV.int IntKind.u8 (0 : Int), AV.int IntKind.u8 (0 : Int), AV.int IntKind.u8 (0 : Int), AV.int IntKind.u8 (0 : Int), AV.int IntKind.u8 (0 : Int), AV.int IntKind.u8 (0 : Int), AV.int IntKind.u8 (0 : Int), AV.int IntKind.u8 (0 : Int), AV.int IntKind.u8 (0 : Int), AV.int IntKind.u8 (0 : Int), AV.int IntKind.u8 (0 : Int), AV.int IntKind.u8 (0 : Int), AV.int IntKind.u8 (0 : Int), AV.int IntKind.u8 (0 : Int), AV.int IntKind.u8 (0 : Int), AV.int IntKind.u8 (0 : Int), AV.int IntKind.i64 (0 : Int), AV.int IntKind.i64 (0 : Int), AV.isl (3) (1) fun (r k : Nat) => atL (List.getD [[AV.int IntKind.i64 (4 : Int), AV.int IntKind.i64 (0 : Int), AV.int IntKind.i64 (0 : Int)]] (r + 0) []) k, AV.int IntKind.i64 (0 : Int), AV.nsl], AV.int IntKind.i64 (4 : Int), AV.int IntKind.i64 (1 : Int)]) (AV.tup [Spend.av (altS Spend.leaf4 (4 : Int) (1 : Int)), AV.int IntKind.i64 (altE Spend.leaf4 (4 : Int) (1 : Int))]) (.dc (true) 11 ([AV.agg [AV.int IntKind.i64 (0 : Int), AV.int IntKind.i64 (0 : Int), AV.int IntKind.i64 (0 : Int), AV.int IntKind.i64 (0 : Int), AV.int IntKind.i64 (0 : Int), AV.int IntKind.u8 (0 : Int), AV.int IntKind.u8 (0 : Int), AV.int IntKind.u8 (0 : Int), AV.int IntKind.u8 (0 : Int), AV.int IntKind.u8 (0 : Int), AV.int IntKind.u8 (0 : Int), AV.int IntKind.u8 (0 : Int), AV.int IntKind.u8 (0 : Int), AV.int IntKind.u8 (0 : Int), AV.int IntKind.u8 (0 : Int), AV.int IntKind.u8 (0 : Int), AV.int IntKind.u8 (0 : Int), AV.int IntKind.u8 (0 : Int), AV.int IntKind.u8 (0 : Int), AV.int IntKind.u8 (0 : Int), AV.int IntKind.u8 (0 : Int), AV.int IntKind.u8 (0 : Int), AV.int IntKind.u8 (0 : Int), AV.int IntKind.u8 (0 : Int), AV.int IntKind.u8 (0 : Int), AV.int IntKind.u8 (0 : Int), AV.int IntKind.u8 (0 : Int), AV.int IntKind.u8 (0 : Int), AV.int IntKind.u8 (0 : Int), AV.int IntKind.u8 (0 : Int), AV.int IntKind.u8 (0 : Int), AV.int IntKind.u8 (0 : Int), AV.int IntKind.u8 (0 : Int), AV.int IntKind.u8 (0 : Int), AV.int IntKind.u8 (0 : Int), AV.int IntKind.u8 (0 : Int), AV.int IntKind.u8 (0 : Int), AV.int IntKind.i64 (0 : Int), AV.int IntKind.i64 (0 : Int), AV.int IntKind.i64 (0 : Int), AV.int IntKind.i64 (0 : Int), AV.int IntKind.i64 (0 : Int), AV.int IntKind.i64 (0 : Int), AV.int IntKind.u8 (0 : Int), AV.int IntKind.u8 (0 : Int), AV.int IntKind.u8 (0 : Int), AV.int IntKind.u8 (0 : Int), AV.int IntKind.u8 (0 : Int), AV.int IntKind.u8 (0 : Int), AV.int IntKind.u8 (0 : Int), AV.int IntKind.u8 (0 : Int), AV.int IntKind.u8 (0 : Int), AV.int IntKind.u8 (0 : Int), AV.int IntKind.u8 (0 : Int), AV.int IntKind.u8 (0 : Int), AV.int IntKind.u8 (0 : Int), AV.int IntKind.u8 (0 : Int), AV.int IntKind.u8 (0 : Int), AV.int IntKind.u8 (0 : Int), AV.int IntKind.u8 (0 : Int), AV.int IntKind.u8 (0 : Int), AV.int IntKind.u8 (0 : Int), AV.int IntKind.u8 (0 : Int), AV.int IntKind.u8 (0 : Int), AV.int IntKind.u8 (0 : Int), AV.int IntKind.u8 (0 : Int), AV.int IntKind.u8 (0 : Int), AV.int IntKind.u8 (0 : Int), AV.int IntKind.u8 (0 : Int), AV.int IntKind.u8 (0 : Int), AV.int IntKind.u8 (0 : Int), AV.int IntKind.u8 (0 : Int), AV.int IntKind.u8 (0 : Int), AV.int IntKind.u8 (0 : Int), AV.int IntKind.u8 (0 : Int), AV.int IntKind.i64 (0 : Int), AV.int IntKind.i64 (0 : Int), AV.isl (3) (1) fun (r k : Nat) => atL (List.getD [[AV.int IntKind.i64 (4 : Int), AV.int IntKind.i64 (0 : Int), AV.int IntKind.i64 (0 : Int)]] (r + 0) []) k, AV.int IntKind.i64 (0 : Int), AV.nsl], AV.int IntKind.i64 (10 : Int), AV.int IntKind.i64 (1 : Int)]) (AV.tup [Spend.av (altS Spend.leaf4 (10 : Int) (1 : Int)), AV.int IntKind.i64 (altE Spend.leaf4 (10 : Int) (1 : Int))]) (.sc (true) 19 ([]) (AV.int IntKind.i64 (12 : Int)) (.out (AV.bool true) [] (AV.bool true) []))))
    (by kernel_rfl) ?_
  refine k_dc (alter4_c ((4 : Int))) ?_
  refine k_dc (alter4_c ((10 : Int))) ?_
  refine k_sc (kinds_c) ?_
  exact k_out (Ent.of_eq (by first | rfl | simp_all))

theorem fewP {v : Inv} {p : Pay} (h : LightP p) : FewP (reP v p) := by
  cases hb : invB v with
  | false =>
    rw [show reP v p = .zero by rw [reP, hb]; rfl]
    exact ⟨Nat.zero_le _, Nat.zero_le _, Nat.zero_le _, fun i hi => absurd hi (by show ¬ i < 0; omega), fun i hi => absurd hi (by show ¬ i < 0; omega), fun i hi => absurd hi (by show ¬ i < 0; omega)⟩
  | true =>
    rw [reP_t hb]
    refine ⟨by have := h.ns; dsimp only; omega, by have := h.nc; dsimp only; omega, by have := h.ne; dsimp only; omega, fun i hi => h.sp i hi, fun i hi => ?_, fun i hi => h.es i hi⟩
    have h1 := h.cn i hi
    have h2 := h.cf i hi
    have h3 := fun j hj => h.cl i j hi hj
    show OkC (reC v (p.ch i))
    by_cases h0 : (p.ch i).n = 0
    · rw [reC_0 h0]
      exact ⟨by show (p.ch i).n ≤ 1000; omega, h2, fun j hj => h3 j hj⟩
    · rw [reC_s h0]
      refine ⟨by show (p.ch i).n ≤ 1000; omega, h2, fun j hj => ?_⟩
      have h4 := h3 j hj
      dsimp only
      split
      · exact h4
      · exact h4

theorem rogueReplays_c (p : Pay) (v : Inv) (hs : ∀ i, i < p.nc → (p.ch i).n < 9223372036854775808) : Pure Try.prog gl0 5 [p.av, v.av] (.bool true) := by
  refine pure_sk (own := ow0) Try.func5 (by kernel_rfl) mixed (by kernel_rfl)
    (.sc (true) 9 ([]) (AV.bool true) (.ff (.sc (true) 14 ([AV.agg (Pay.cells p)]) (AV.bool (lightB p)) (.br (!lightB p) (.out (AV.bool true) [] (AV.bool true) []) (.dc (true) 15 ([AV.agg (Pay.cells p), AV.agg (u8c v.1 ++ [AV.int IntKind.i64 v.2, AV.int IntKind.i64 v.3, AV.int IntKind.i64 v.4])]) (AV.tup [Pay.av (reP v p), AV.int IntKind.i64 (invE v)]) (.dc (true) 16 ([AV.agg (Pay.cells p), AV.agg (u8c v.1 ++ [AV.int IntKind.i64 v.2, AV.int IntKind.i64 v.3, AV.int IntKind.i64 v.4])]) (AV.tup [Pay.av (reP v p), AV.int IntKind.i64 (invE v)]) (.sc ((invE v == invE v) == true) 17 ([AV.agg (Pay.cells (reP v p)), AV.agg (Pay.cells (reP v p))]) (AV.bool true) (.out (AV.bool (invE v == invE v || false)) [] (AV.bool true) []))))))))
    (by kernel_rfl) ?_
  refine k_sc (awake53_c) ?_
  refine k_ff ?_
  refine k_sc (light_c (p) (by first | assumption | exact lightP g3 | exact fewP (lightP g3))) ?_
  refine k_br (fun h3 => ?_) (fun h3 => ?_)
  · have g3 := (cnd_not_t cnd_id_f) h3
    exact k_out (Ent.of_eq (by first | rfl | simp_all))
  · have g3 := (cnd_not_f cnd_id_t) h3
    refine k_dc (replay_c (p) (v) (by first | assumption | exact lightP g3 | exact fewP (lightP g3))) ?_
    refine k_dc (rreplay_c (p) (v) (by first | assumption | exact lightP g3 | exact fewP (lightP g3))) ?_
    refine k_scg (fun h7 => same38_c (reP v p) (by first | assumption | exact lightP g3 | exact fewP (lightP g3))) ?_
    exact k_out (Ent.of_eq (by first | rfl | simp_all))

end Go.Proofs.Ytehcijjdibdljaa
