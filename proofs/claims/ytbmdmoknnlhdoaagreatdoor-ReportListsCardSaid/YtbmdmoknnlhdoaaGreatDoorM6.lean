/- Part of the proof: HU1, HU2, HU3. -/
import Derived.Test.YtbmdmoknnlhdoaaGreatDoorM5
import Derived.Test.YtbmdmoknnlhdoaaGreatDoorM4
import Derived.Test.YtbmdmoknnlhdoaaGreatDoorProg
namespace Go.Proofs.YtbmdmoknnlhdoaaGreatDoor.U
open Go Go.Am Go.Sp
set_option maxRecDepth 100000

theorem mixed : Tryz.prog.follows .mixedOrders = true := by kernel_rfl
def ow0 : FuncId → Option (List Bool) := fun _ => none
def owR (n : Nat) : FuncId → Option (List Bool) := fun f => bif Nat.beq f 999999999 then some (List.replicate n true) else none
def gl0 : Globs := fun _ => none

theorem nan_c (n : Int) : Pure Tryz.prog gl0 195 [.int .i64 n] (.bool false) := by
  refine pure_sk (own := ow0) Tryz.func195 (by kernel_rfl) mixed (by kernel_rfl)
    (.out (AV.bool (n != n)) [] (AV.bool false) [])
    (by kernel_rfl) ?_
  exact k_out (Ent.of_eq (by first | rfl | simp_all))
theorem cmpI_c (a b : Int) : Pure Tryz.prog gl0 153 [.int .i64 a, .int .i64 b] (.int .i64 (cmpI a b)) := by
  refine pure_sk (own := ow0) Tryz.func153 (by kernel_rfl) mixed (by kernel_rfl)
    (.sc (true) 195 ([Zi a]) (AV.bool false) (.sc (true) 195 ([Zi b]) (AV.bool false) (.ff (.ff (.br (decide (a < b)) (.out (Zi (-1)) [] (Zi (cmpI a b)) []) (.br (decide (a > b)) (.out (Zi 1) [] (Zi (cmpI a b)) []) (.out (Zi 0) [] (Zi (cmpI a b)) [])))))))
    (by kernel_rfl) ?_
  refine k_sc (nan_c (a)) ?_
  refine k_sc (nan_c (b)) ?_
  refine k_ff ?_
  refine k_ff ?_
  refine k_br (fun h4 => ?_) (fun h4 => ?_)
  · have g4 := cnd_dec_t h4
    exact k_out (Ent.of_eq (congrArg (AV.int _) (by unfold cmpI; split <;> (try split) <;> omega)))
  · have g4 := cnd_dec_f h4
    refine k_br (fun h6 => ?_) (fun h6 => ?_)
    · have g6 := cnd_dec_t h6
      exact k_out (Ent.of_eq (congrArg (AV.int _) (by unfold cmpI; split <;> (try split) <;> omega)))
    · have g6 := cnd_dec_f h6
      exact k_out (Ent.of_eq (congrArg (AV.int _) (by unfold cmpI; split <;> (try split) <;> omega)))
theorem or_c (a b c : Int) : Pure Tryz.prog gl0 152 [.isl 1 3 fun i j => atL (List.getD [[AV.int .i64 a], [AV.int .i64 b], [AV.int .i64 c]] i []) j] (.int .i64 (if a ≠ 0 then a else if b ≠ 0 then b else c)) := by
  refine pure_sk (own := (owR 4)) Tryz.func152 (by kernel_rfl) mixed (by kernel_rfl)
    (.tt (.req ((0 : Int) ≤ (0 : Int) ∧ (0 : Int) < (↑(3) : Int)) (.br (a != (0 : Int)) (.out (Zi a) [] (Zi (if a ≠ (0 : Int) then a else if b ≠ (0 : Int) then b else c)) []) (.tt (.req ((0 : Int) ≤ IntKind.wrap IntKind.i64 ((0 : Int) + (1 : Int)) ∧ IntKind.wrap IntKind.i64 ((0 : Int) + (1 : Int)) < (↑(3) : Int)) (.br (b != (0 : Int)) (.out (Zi b) [] (Zi (if a ≠ (0 : Int) then a else if b ≠ (0 : Int) then b else c)) []) (.tt (.req ((0 : Int) ≤ IntKind.wrap IntKind.i64 (IntKind.wrap IntKind.i64 ((0 : Int) + (1 : Int)) + (1 : Int)) ∧ IntKind.wrap IntKind.i64 (IntKind.wrap IntKind.i64 ((0 : Int) + (1 : Int)) + (1 : Int)) < (↑(3) : Int)) (.br (c != (0 : Int)) (.out (Zi c) [] (Zi (if a ≠ (0 : Int) then a else if b ≠ (0 : Int) then b else c)) []) (.ff (.out (Zi 0) [] (Zi (if a ≠ (0 : Int) then a else if b ≠ (0 : Int) then b else c)) [])))))))))))
    (by kernel_rfl) ?_
  refine k_tt ?_
  refine k_req (by decide) ?_
  refine k_br (fun h2 => ?_) (fun h2 => ?_)
  · have g2 := cnd_bne_t h2
    exact k_out (Ent.of_eq (congrArg (AV.int _) (by simp_all)))
  · have g2 := cnd_bne_f h2
    refine k_tt ?_
    refine k_req (by decide) ?_
    refine k_br (fun h6 => ?_) (fun h6 => ?_)
    · have g6 := cnd_bne_t h6
      exact k_out (Ent.of_eq (congrArg (AV.int _) (by simp_all)))
    · have g6 := cnd_bne_f h6
      refine k_tt ?_
      refine k_req (by decide) ?_
      refine k_br (fun h10 => ?_) (fun h10 => ?_)
      · have g10 := cnd_bne_t h10
        exact k_out (Ent.of_eq (congrArg (AV.int _) (by simp_all)))
      · have g10 := cnd_bne_f h10
        refine k_ff ?_
        exact k_out (Ent.of_eq (congrArg (AV.int _) (by simp_all)))
theorem compare_c (a b : Sup) : Pure Tryz.prog gl0 103 [.agg a.cells, .agg b.cells] (.int .i64 (cmpS a b)) := by
  refine pure_sk (own := ow0) Tryz.func103 (by kernel_rfl) mixed (by kernel_rfl)
    (.sc (true) 153 ([Zi a.1, Zi b.1]) (Zi (cmpI a.1 b.1)) (.sc (true) 153 ([Zi a.2, Zi b.2]) (Zi (cmpI a.2 b.2)) (.sc (true) 153 ([Zi a.3, Zi b.3]) (Zi (cmpI a.3 b.3)) (.sc (true) 152 ([AV.isl (1) (3) fun (r k : Nat) => atL (List.getD [[Zi (cmpI a.1 b.1)], [Zi (cmpI a.2 b.2)], [Zi (cmpI a.3 b.3)]] (r + 0) []) k]) (Zi (if cmpI a.1 b.1 ≠ (0 : Int) then cmpI a.1 b.1 else if cmpI a.2 b.2 ≠ (0 : Int) then cmpI a.2 b.2 else cmpI a.3 b.3)) (.out (Zi (if cmpI a.1 b.1 ≠ (0 : Int) then cmpI a.1 b.1 else if cmpI a.2 b.2 ≠ (0 : Int) then cmpI a.2 b.2 else cmpI a.3 b.3)) [] (Zi (cmpS a b)) [])))))
    (by kernel_rfl) ?_
  refine k_sc (cmpI_c (a.1) (b.1)) ?_
  refine k_sc (cmpI_c (a.2) (b.2)) ?_
  refine k_sc (cmpI_c (a.3) (b.3)) ?_
  refine k_sc (or_c (cmpI a.1 b.1) (cmpI a.2 b.2) (cmpI a.3 b.3)) ?_
  exact k_out (Ent.of_eq (congrArg (AV.int _) (by unfold cmpS; rfl)))
theorem outst_c (s : Sup) : Pure Tryz.prog gl0 63 [.agg s.cells] (.int .i64 (leftS s)) := by
  refine pure_sk (own := ow0) Tryz.func63 (by kernel_rfl) mixed (by kernel_rfl)
    (.out (Zi (IntKind.wrap IntKind.i64 (IntKind.wrap IntKind.i64 (IntKind.wrap IntKind.i64 (s.4 - s.5) + s.6) - s.7))) [] (Zi (leftS s)) [])
    (by kernel_rfl) ?_
  exact k_out (Ent.of_eq (by first | rfl | simp_all))
theorem left_c (s : Sup) : Pure Tryz.prog gl0 31 [.agg s.cells] (.int .i64 (leftS s)) := by
  refine pure_sk (own := ow0) Tryz.func31 (by kernel_rfl) mixed (by kernel_rfl)
    (.out (Zi (IntKind.wrap IntKind.i64 (IntKind.wrap IntKind.i64 (IntKind.wrap IntKind.i64 (s.4 - s.5) + s.6) - s.7))) [] (Zi (leftS s)) [])
    (by kernel_rfl) ?_
  exact k_out (Ent.of_eq (by first | rfl | simp_all))
theorem amount_c (n : Int) : Pure Tryz.prog gl0 154 [.int .i64 n] (.bool (amtB n)) := by
  refine pure_sk (own := ow0) Tryz.func154 (by kernel_rfl) mixed (by kernel_rfl)
    (.out (AV.bool (decide (n ≥ (0 : Int)) && decide (n ≤ (4503599627370496 : Int)))) [] (AV.bool (amtB n)) [])
    (by kernel_rfl) ?_
  exact k_out (Ent.of_eq (by first | rfl | simp_all))
theorem rvalid_c (s : Sup) : Pure Tryz.prog gl0 105 [.agg s.cells] (.bool (validS s)) := by
  refine pure_sk (own := ow0) Tryz.func105 (by kernel_rfl) mixed (by kernel_rfl)
    (.sc ((decide (s.1 ≥ (0 : Int)) && decide (s.1 < (8 : Int)) && decide (s.2 ≥ (0 : Int)) && decide (s.2 ≤ (1000000 : Int)) && decide (s.3 ≥ (0 : Int)) && decide (s.3 ≤ (16 : Int))) == true) 154 ([Zi s.4]) (AV.bool (amtB s.4)) (.sc ((decide (s.1 ≥ (0 : Int)) && decide (s.1 < (8 : Int)) && decide (s.2 ≥ (0 : Int)) && decide (s.2 ≤ (1000000 : Int)) && decide (s.3 ≥ (0 : Int)) && decide (s.3 ≤ (16 : Int)) && amtB s.4) == true) 154 ([Zi s.5]) (AV.bool (amtB s.5)) (.sc ((decide (s.1 ≥ (0 : Int)) && decide (s.1 < (8 : Int)) && decide (s.2 ≥ (0 : Int)) && decide (s.2 ≤ (1000000 : Int)) && decide (s.3 ≥ (0 : Int)) && decide (s.3 ≤ (16 : Int)) && amtB s.4 && amtB s.5) == true) 154 ([Zi s.6]) (AV.bool (amtB s.6)) (.sc ((decide (s.1 ≥ (0 : Int)) && decide (s.1 < (8 : Int)) && decide (s.2 ≥ (0 : Int)) && decide (s.2 ≤ (1000000 : Int)) && decide (s.3 ≥ (0 : Int)) && decide (s.3 ≤ (16 : Int)) && amtB s.4 && amtB s.5 && amtB s.6) == true) 154 ([Zi s.7]) (AV.bool (amtB s.7)) (.out (AV.bool (decide (s.1 ≥ (0 : Int)) && decide (s.1 < (8 : Int)) && decide (s.2 ≥ (0 : Int)) && decide (s.2 ≤ (1000000 : Int)) && decide (s.3 ≥ (0 : Int)) && decide (s.3 ≤ (16 : Int)) && amtB s.4 && amtB s.5 && amtB s.6 && amtB s.7 && decide (s.6 ≤ s.5))) [] (AV.bool (validS s)) [])))))
    (by kernel_rfl) ?_
  refine k_scg (fun h0 => amount_c (s.4)) ?_
  refine k_scg (fun h1 => amount_c (s.5)) ?_
  refine k_scg (fun h2 => amount_c (s.6)) ?_
  refine k_scg (fun h3 => amount_c (s.7)) ?_
  exact k_out (Ent.of_eq (by first | rfl | simp_all))
theorem same_c (a b : Sup) : Pure Tryz.prog gl0 106 [.agg a.cells, .agg b.cells] (.bool (keyB a b)) := by
  refine pure_sk (own := ow0) Tryz.func106 (by kernel_rfl) mixed (by kernel_rfl)
    (.out (AV.bool (a.1 == b.1 && a.2 == b.2 && a.3 == b.3)) [] (AV.bool (keyB a b)) [])
    (by kernel_rfl) ?_
  exact k_out (Ent.of_eq (by first | rfl | simp_all))



theorem ipt_ext {os : List (Option Ob)} {m : Nat} {f g : Nat → AV} (h : ∀ j, j < m → f j = g j) : Ent os (.ipt m f) (.ipt m g) := fun β w v _ hr => by
  obtain ⟨b, off, vals, rfl, hm, hb, hc, hr, hcl, ho⟩ := rel_ipt_inv hr
  exact .ipt vals hm hb hc ho (fun j hj => by rw [← h j hj]; exact hr j hj) (fun j hj => by rw [← h j hj]; exact hcl j hj)
theorem amounts_p (s : Sup) : Pure Tryz.prog gl0 104 [.ipt 7 fun k => atL s.cells k] (.agg [.ipt 1 fun k => atL [AV.int .i64 s.issued] k, .ipt 1 fun k => atL [AV.int .i64 s.ret] k, .ipt 1 fun k => atL [AV.int .i64 s.dbl] k, .ipt 1 fun k => atL [AV.int .i64 s.exp] k]) := by
  refine pure_sk (own := ow0) Tryz.func104 (by kernel_rfl) mixed (by kernel_rfl)
    (.out (AV.agg [AV.ipt (1) fun (k : Nat) => atL (Sup.cells s) (3 + k), AV.ipt (1) fun (k : Nat) => atL (Sup.cells s) (4 + k), AV.ipt (1) fun (k : Nat) => atL (Sup.cells s) (5 + k), AV.ipt (1) fun (k : Nat) => atL (Sup.cells s) (6 + k)]) [] (AV.agg [AV.ipt (1 : Nat) fun (k : Nat) => atL [Zi (Sup.issued s)] k, AV.ipt (1 : Nat) fun (k : Nat) => atL [Zi (Sup.ret s)] k, AV.ipt (1 : Nat) fun (k : Nat) => atL [Zi (Sup.dbl s)] k, AV.ipt (1 : Nat) fun (k : Nat) => atL [Zi (Sup.exp s)] k]) [])
    (by kernel_rfl) ?_
  exact k_out (Ent.agg ⟨ipt_ext fun j hj => by obtain rfl := Nat.lt_one_iff.1 hj; rfl, ipt_ext fun j hj => by obtain rfl := Nat.lt_one_iff.1 hj; rfl, ipt_ext fun j hj => by obtain rfl := Nat.lt_one_iff.1 hj; rfl, ipt_ext fun j hj => by obtain rfl := Nat.lt_one_iff.1 hj; rfl, trivial⟩)
theorem amt_t {n : Int} (h : ¬ n < 0 ∧ ¬ n > 4503599627370496) : amtB n = true := by unfold amtB; rw [decide_eq_true (by omega), decide_eq_true (by omega)]; rfl
theorem amt_f {n : Int} (h : n < 0 ∨ n > 4503599627370496) : amtB n = false := by
  unfold amtB
  by_cases c : 0 ≤ n
  · rw [decide_eq_true c, decide_eq_false (by omega)]; rfl
  · rw [decide_eq_false c]; rfl
theorem valid_c (s : Sup) : Pure Tryz.prog gl0 64 [.agg s.cells] (.bool (validS s)) := by
  refine pure_sk (own := (owR 5)) Tryz.func64 (by kernel_rfl) mixed (by kernel_rfl)
    (.dc (true) 104 ([AV.ipt (7) fun (k : Nat) => atL (Sup.cells s) k]) (AV.agg [AV.ipt (1 : Nat) fun (k : Nat) => atL [Zi (Sup.issued s)] k, AV.ipt (1 : Nat) fun (k : Nat) => atL [Zi (Sup.ret s)] k, AV.ipt (1 : Nat) fun (k : Nat) => atL [Zi (Sup.dbl s)] k, AV.ipt (1 : Nat) fun (k : Nat) => atL [Zi (Sup.exp s)] k]) (.tt (.req ((0 : Int) ≤ (0 : Int) ∧ (0 : Int) < (↑(4) : Int)) (.br (decide (s.4 < (0 : Int)) || decide (s.4 > (4503599627370496 : Int))) (.out (AV.bool false) [] (AV.bool (validS s)) []) (.tt (.req ((0 : Int) ≤ IntKind.wrap IntKind.i64 ((0 : Int) + (1 : Int)) ∧ IntKind.wrap IntKind.i64 ((0 : Int) + (1 : Int)) < (↑(4) : Int)) (.br (decide (s.5 < (0 : Int)) || decide (s.5 > (4503599627370496 : Int))) (.out (AV.bool false) [] (AV.bool (validS s)) []) (.tt (.req ((0 : Int) ≤ IntKind.wrap IntKind.i64 (IntKind.wrap IntKind.i64 ((0 : Int) + (1 : Int)) + (1 : Int)) ∧ IntKind.wrap IntKind.i64 (IntKind.wrap IntKind.i64 ((0 : Int) + (1 : Int)) + (1 : Int)) < (↑(4) : Int)) (.br (decide (s.6 < (0 : Int)) || decide (s.6 > (4503599627370496 : Int))) (.out (AV.bool false) [] (AV.bool (validS s)) []) (.tt (.req ((0 : Int) ≤ IntKind.wrap IntKind.i64 (IntKind.wrap IntKind.i64 (IntKind.wrap IntKind.i64 ((0 : Int) + (1 : Int)) + (1 : Int)) + (1 : Int)) ∧ IntKind.wrap IntKind.i64 (IntKind.wrap IntKind.i64 (IntKind.wrap IntKind.i64 ((0 : Int) + (1 : Int)) + (1 : Int)) + (1 : Int)) < (↑(4) : Int)) (.br (decide (s.7 < (0 : Int)) || decide (s.7 > (4503599627370496 : Int))) (.out (AV.bool false) [] (AV.bool (validS s)) []) (.ff (.out (AV.bool (decide (s.1 ≥ (0 : Int)) && decide (s.1 < (8 : Int)) && decide (s.2 ≥ (0 : Int)) && decide (s.2 ≤ (1000000 : Int)) && decide (s.3 ≥ (0 : Int)) && decide (s.3 ≤ (16 : Int)) && decide (s.6 ≤ s.5))) [] (AV.bool (validS s)) [])))))))))))))))
    (by kernel_rfl) ?_
  refine k_dc (amounts_p (s)) ?_
  refine k_tt ?_
  refine k_req (by decide) ?_
  refine k_br (fun h3 => ?_) (fun h3 => ?_)
  · have g3 := (cnd_or_t cnd_dec_t cnd_dec_t) h3
    exact k_out (Ent.of_eq (congrArg AV.bool (by first | (simp [validS, amt_f g3]; done) | (simp [validS, amt_f g7]; done) | (simp [validS, amt_f g11]; done) | (simp [validS, amt_f g15]; done) | (unfold validS; rw [amt_t g3, amt_t g7, amt_t g11, amt_t g15]; simp [Bool.and_assoc]))))
  · have g3 := (cnd_or_f cnd_dec_f cnd_dec_f) h3
    refine k_tt ?_
    refine k_req (by decide) ?_
    refine k_br (fun h7 => ?_) (fun h7 => ?_)
    · have g7 := (cnd_or_t cnd_dec_t cnd_dec_t) h7
      exact k_out (Ent.of_eq (congrArg AV.bool (by first | (simp [validS, amt_f g3]; done) | (simp [validS, amt_f g7]; done) | (simp [validS, amt_f g11]; done) | (simp [validS, amt_f g15]; done) | (unfold validS; rw [amt_t g3, amt_t g7, amt_t g11, amt_t g15]; simp [Bool.and_assoc]))))
    · have g7 := (cnd_or_f cnd_dec_f cnd_dec_f) h7
      refine k_tt ?_
      refine k_req (by decide) ?_
      refine k_br (fun h11 => ?_) (fun h11 => ?_)
      · have g11 := (cnd_or_t cnd_dec_t cnd_dec_t) h11
        exact k_out (Ent.of_eq (congrArg AV.bool (by first | (simp [validS, amt_f g3]; done) | (simp [validS, amt_f g7]; done) | (simp [validS, amt_f g11]; done) | (simp [validS, amt_f g15]; done) | (unfold validS; rw [amt_t g3, amt_t g7, amt_t g11, amt_t g15]; simp [Bool.and_assoc]))))
      · have g11 := (cnd_or_f cnd_dec_f cnd_dec_f) h11
        refine k_tt ?_
        refine k_req (by decide) ?_
        refine k_br (fun h15 => ?_) (fun h15 => ?_)
        · have g15 := (cnd_or_t cnd_dec_t cnd_dec_t) h15
          exact k_out (Ent.of_eq (congrArg AV.bool (by first | (simp [validS, amt_f g3]; done) | (simp [validS, amt_f g7]; done) | (simp [validS, amt_f g11]; done) | (simp [validS, amt_f g15]; done) | (unfold validS; rw [amt_t g3, amt_t g7, amt_t g11, amt_t g15]; simp [Bool.and_assoc]))))
        · have g15 := (cnd_or_f cnd_dec_f cnd_dec_f) h15
          refine k_ff ?_
          exact k_out (Ent.of_eq (congrArg AV.bool (by first | (simp [validS, amt_f g3]; done) | (simp [validS, amt_f g7]; done) | (simp [validS, amt_f g11]; done) | (simp [validS, amt_f g15]; done) | (unfold validS; rw [amt_t g3, amt_t g7, amt_t g11, amt_t g15]; simp [Bool.and_assoc]))))


theorem indexS_w (F : FuncId) (f : Nat → Sup) (n : Nat) (p : Nat → Bool) (hn : n < 9223372036854775808) (hc : ∀ i, i < n → Pure Tryz.prog gl0 F [.agg (f i).cells] (.bool (p i))) : Pure Tryz.prog gl0 148 [supA n f, .fn (.func F) [] []] (.int .i64 (firstI p n 0)) := by
  refine pure_sk (own := ow0) Tryz.func148 (by kernel_rfl) mixed (by kernel_rfl)
    (.loop ({ x : Nat // x ≤ n ∧ (fun (i : Nat) => firstI p n (0 : Nat) = firstI p (n - i) i) x }) (fun (x : { x : Nat // x ≤ n ∧ (fun (i : Nat) => firstI p n (0 : Nat) = firstI p (n - i) i) x }) => mkSt [0, 1, 7, 8] [AV.isl (7) n fun (i j : Nat) => atL (Sup.cells (f i)) j, AV.fn (Fn.func F) [] [], Zi (↑n : Int), Zi (↑(x.1) : Int)] []) (fun (x : { x : Nat // x ≤ n ∧ (fun (i : Nat) => firstI p n (0 : Nat) = firstI p (n - i) i) x }) => n - x.1) (⟨(0 : Nat), ⟨Nat.zero_le n, rfl⟩⟩) ([0, 1, 7, 8]) ([]) ([AV.isl (7) n fun (i j : Nat) => atL (Sup.cells (f i)) j, AV.fn (Fn.func F) [] [], Zi (↑n : Int), Zi 0]) ([]) (fun x0 => (.br (decide ((↑x0.1 : Int) < (↑n : Int))) (.req ((0 : Int) ≤ (↑x0.1 : Int) ∧ (↑x0.1 : Int) < (↑n : Int)) (.sc (true) F ([AV.agg (Sup.cells (f (Int.toNat (↑(x0.1) : Int))))]) (AV.bool (p (Int.toNat (↑(x0.1) : Int)))) (.br (p (Int.toNat (↑x0.1 : Int))) (.out (Zi (↑x0.1 : Int)) [] (Zi (firstI p n (0 : Nat))) []) (.again (Again (0) (fun (x : { x : Nat // x ≤ n ∧ (fun (i : Nat) => firstI p n (0 : Nat) = firstI p (n - i) i) x }) => mkSt [0, 1, 7, 8] [AV.isl (7) n fun (i j : Nat) => atL (Sup.cells (f i)) j, AV.fn (Fn.func F) [] [], Zi (↑n : Int), Zi (↑(x.1) : Int)] []) (fun (x : { x : Nat // x ≤ n ∧ (fun (i : Nat) => firstI p n (0 : Nat) = firstI p (n - i) i) x }) => n - x.1) x0) ([0, 1, 7, 8]) ([]) ([AV.isl (7) n fun (i j : Nat) => atL (Sup.cells (f i)) j, AV.fn (Fn.func F) [] [], Zi (↑n : Int), Zi (IntKind.wrap IntKind.i64 ((↑x0.1 : Int) + (1 : Int)))]) ([]))))) (.out (Zi (-1)) [] (Zi (firstI p n (0 : Nat))) []))))
    (by kernel_rfl) ?_
  refine k_loop (fun _ hs => hs.le (by repeat' (first | exact trivial | (first | exact Ent.refl _ | exact inc_ent (by omega) | exact Ent.nil rfl | exact Ent.of_eq (congrArg (AV.osl _ _ _) (by first | omega | (dsimp only; omega))) | exact Ent.of_eq (congrArg (AV.int _) (by first | omega | (dsimp only; omega)))) | refine And.intro ?_ ?_)) (trivial)) (fun x0 => ?_)
  try (have q0 := x0.2; dsimp only at q0)
  refine k_br (fun h1 => ?_) (fun h1 => ?_)
  · have g1 := cnd_dec_t h1
    refine k_req (by first | omega | (simp only [Int.toNat_natCast]; omega)) ?_
    refine k_sc (hc (Int.toNat (↑(x0.1) : Int)) (by first | assumption | omega)) ?_
    refine k_br (fun h4 => ?_) (fun h4 => ?_)
    · have g4 := cnd_id_t h4
      try simp only [Int.toNat_natCast] at g4
      exact k_out (Ent.of_eq (congrArg _ (first_hit x0.2.2 (by omega) g4)))
    · have g4 := cnd_id_f h4
      try simp only [Int.toNat_natCast] at g4
      exact k_again (⟨x0.1 + 1, by omega, first_next x0.2.2 (by omega) g4⟩) (fun _ hs => hs.le (by repeat' (first | exact trivial | (first | exact Ent.refl _ | exact inc_ent (by omega) | exact Ent.nil rfl | exact Ent.of_eq (congrArg (AV.osl _ _ _) (by first | omega | (dsimp only; omega))) | exact Ent.of_eq (congrArg (AV.int _) (by first | omega | (dsimp only; omega)))) | refine And.intro ?_ ?_)) (trivial)) (by first | omega | (dsimp only; omega) | (simp; omega))
  · have g1 := cnd_dec_f h1
    exact k_out (Ent.of_eq (congrArg _ (first_miss x0.2.2 (by omega))))
theorem containsS_w (F : FuncId) (f : Nat → Sup) (n : Nat) (p : Nat → Bool) (hn : n < 9223372036854775808) (hc : ∀ i, i < n → Pure Tryz.prog gl0 F [.agg (f i).cells] (.bool (p i))) : Pure Tryz.prog gl0 99 [supA n f, .fn (.func F) [] []] (.bool (anyI p n)) := by
  have c1 := indexS_w F f n p hn hc
  refine pure_sk (own := ow0) Tryz.func99 (by kernel_rfl) mixed (by kernel_rfl)
    (.sc (true) 148 ([AV.isl (7) n fun (i j : Nat) => atL (Sup.cells (f i)) j, AV.fn (Fn.func F) [] []]) (Zi (firstI p n (0 : Nat))) (.out (AV.bool (decide (firstI p n (0) ≥ (0 : Int)))) [] (AV.bool (anyI p n)) []))
    (by kernel_rfl) ?_
  refine k_sc (c1) ?_
  exact k_out (Ent.refl _)
theorem not2_c (s : Sup) : Pure Tryz.prog gl0 100 [.agg s.cells] (.bool (!validS s)) := by
  refine pure_sk (own := ow0) Tryz.func100 (by kernel_rfl) mixed (by kernel_rfl)
    (.sc (true) 64 ([AV.agg (Sup.cells s)]) (AV.bool (validS s)) (.out (AV.bool !validS s) [] (AV.bool !validS s) []))
    (by kernel_rfl) ?_
  refine k_sc (valid_c (s)) ?_
  exact k_out (Ent.of_eq (by first | rfl | simp_all))
theorem rlist_c (n : Nat) (f : Nat → Sup) (hn : n < 9223372036854775807) : Pure Tryz.prog gl0 66 [supA n f] (.bool (listB n f)) := by
  refine pure_sk (own := ow0) Tryz.func66 (by kernel_rfl) mixed (by kernel_rfl)
    (.br (decide ((↑n : Int) > (1000 : Int))) (.out (AV.bool false) [] (AV.bool (listB n f)) []) (.loop ({ x : Nat // x ≤ n ∧ (fun (x : Nat) => ∀ (i : Nat), i < x → validS (f i) = true ∧ ∀ (k : Nat), k < i → keyB (f i) (f k) = false) x }) (fun (x : { x : Nat // x ≤ n ∧ (fun (x : Nat) => ∀ (i : Nat), i < x → validS (f i) = true ∧ ∀ (k : Nat), k < i → keyB (f i) (f k) = false) x }) => mkSt [0, 3] [AV.isl (7) n fun (i j : Nat) => atL (Sup.cells (f i)) j, Zi (↑(x.1) : Int)] []) (fun (x : { x : Nat // x ≤ n ∧ (fun (x : Nat) => ∀ (i : Nat), i < x → validS (f i) = true ∧ ∀ (k : Nat), k < i → keyB (f i) (f k) = false) x }) => n - x.1) (⟨(0 : Nat), ⟨Nat.zero_le n, fun (j : Nat) (hj : j < (0 : Nat)) => absurd hj (Nat.not_lt_zero j)⟩⟩) ([0, 3]) ([]) ([AV.isl (7) n fun (i j : Nat) => atL (Sup.cells (f i)) j, Zi 0]) ([]) (fun x2 => (.br (decide ((↑x2.1 : Int) < (↑n : Int))) (.req ((0 : Int) ≤ (↑x2.1 : Int) ∧ (↑x2.1 : Int) < (↑n : Int)) (.sc (true) 105 ([AV.agg (Sup.cells (f (Int.toNat (↑(x2.1) : Int))))]) (AV.bool (validS (f (Int.toNat (↑(x2.1) : Int))))) (.br (!validS (f (Int.toNat (↑x2.1 : Int)))) (.out (AV.bool false) [] (AV.bool (listB n f)) []) (.loop ({ x : Nat // x ≤ x2.1 ∧ (fun (y : Nat) => ∀ (k : Nat), k < y → keyB (f (x2.1)) (f k) = false) x }) (fun (x : { x : Nat // x ≤ x2.1 ∧ (fun (y : Nat) => ∀ (k : Nat), k < y → keyB (f (x2.1)) (f k) = false) x }) => mkSt [0, 3, 4] [AV.isl (7) n fun (i j : Nat) => atL (Sup.cells (f i)) j, Zi (↑x2.1 : Int), Zi (↑(x.1) : Int)] []) (fun (x : { x : Nat // x ≤ x2.1 ∧ (fun (y : Nat) => ∀ (k : Nat), k < y → keyB (f (x2.1)) (f k) = false) x }) => x2.1 - x.1) (⟨(0 : Nat), ⟨Nat.zero_le (x2.1), fun (j : Nat) (hj : j < (0 : Nat)) => absurd hj (Nat.not_lt_zero j)⟩⟩) ([0, 3, 4]) ([]) ([AV.isl (7) n fun (i j : Nat) => atL (Sup.cells (f i)) j, Zi (↑x2.1 : Int), Zi 0]) ([]) (fun x8 => (.br (decide ((↑x8.1 : Int) < (↑x2.1 : Int))) (.req ((0 : Int) ≤ (↑x2.1 : Int) ∧ (↑x2.1 : Int) < (↑n : Int)) (.req ((0 : Int) ≤ (↑x8.1 : Int) ∧ (↑x8.1 : Int) < (↑n : Int)) (.sc (true) 106 ([AV.agg (Sup.cells (f (Int.toNat (↑x2.1 : Int)))), AV.agg (Sup.cells (f (Int.toNat (↑(x8.1) : Int))))]) (AV.bool (keyB (f (Int.toNat (↑x2.1 : Int))) (f (Int.toNat (↑(x8.1) : Int))))) (.br (keyB (f (Int.toNat (↑x2.1 : Int))) (f (Int.toNat (↑x8.1 : Int)))) (.out (AV.bool false) [] (AV.bool (listB n f)) []) (.again (Again (0) (fun (x : { x : Nat // x ≤ x2.1 ∧ (fun (y : Nat) => ∀ (k : Nat), k < y → keyB (f (x2.1)) (f k) = false) x }) => mkSt [0, 3, 4] [AV.isl (7) n fun (i j : Nat) => atL (Sup.cells (f i)) j, Zi (↑x2.1 : Int), Zi (↑(x.1) : Int)] []) (fun (x : { x : Nat // x ≤ x2.1 ∧ (fun (y : Nat) => ∀ (k : Nat), k < y → keyB (f (x2.1)) (f k) = false) x }) => x2.1 - x.1) x8) ([0, 3, 4]) ([]) ([AV.isl (7) n fun (i j : Nat) => atL (Sup.cells (f i)) j, Zi (↑x2.1 : Int), Zi (IntKind.wrap IntKind.i64 ((↑x8.1 : Int) + (1 : Int)))]) ([])))))) (.again (Again (0) (fun (x : { x : Nat // x ≤ n ∧ (fun (x : Nat) => ∀ (i : Nat), i < x → validS (f i) = true ∧ ∀ (k : Nat), k < i → keyB (f i) (f k) = false) x }) => mkSt [0, 3] [AV.isl (7) n fun (i j : Nat) => atL (Sup.cells (f i)) j, Zi (↑(x.1) : Int)] []) (fun (x : { x : Nat // x ≤ n ∧ (fun (x : Nat) => ∀ (i : Nat), i < x → validS (f i) = true ∧ ∀ (k : Nat), k < i → keyB (f i) (f k) = false) x }) => n - x.1) x2) ([0, 3]) ([]) ([AV.isl (7) n fun (i j : Nat) => atL (Sup.cells (f i)) j, Zi (IntKind.wrap IntKind.i64 ((↑x2.1 : Int) + (1 : Int)))]) ([])))))))) (.out (AV.bool true) [] (AV.bool (listB n f)) [])))))
    (by kernel_rfl) ?_
  refine k_br (fun h0 => ?_) (fun h0 => ?_)
  · have g0 := cnd_dec_t h0
    exact k_out (Ent.of_eq (congrArg AV.bool (list_long g0).symm))
  · have g0 := cnd_dec_f h0
    refine k_loop (fun _ hs => hs.le (by repeat' (first | exact trivial | (first | exact Ent.refl _ | exact inc_ent (by omega) | exact Ent.nil rfl | exact Ent.of_eq (congrArg (AV.osl _ _ _) (by first | omega | (dsimp only; omega))) | exact Ent.of_eq (congrArg (AV.int _) (by first | omega | (dsimp only; omega)))) | refine And.intro ?_ ?_)) (trivial)) (fun x2 => ?_)
    try (have q2 := x2.2; dsimp only at q2)
    refine k_br (fun h3 => ?_) (fun h3 => ?_)
    · have g3 := cnd_dec_t h3
      refine k_req (by first | omega | (simp only [Int.toNat_natCast]; omega)) ?_
      refine k_sc (rvalid_c (f (Int.toNat (↑(x2.1) : Int)))) ?_
      refine k_br (fun h6 => ?_) (fun h6 => ?_)
      · have g6 := (cnd_not_t cnd_id_f) h6
        try simp only [Int.toNat_natCast] at g6
        exact k_out (Ent.of_eq (congrArg AV.bool (list_inv (i := x2.1) (by omega) g6).symm))
      · have g6 := (cnd_not_f cnd_id_t) h6
        try simp only [Int.toNat_natCast] at g6
        refine k_loop (fun _ hs => hs.le (by repeat' (first | exact trivial | (first | exact Ent.refl _ | exact inc_ent (by omega) | exact Ent.nil rfl | exact Ent.of_eq (congrArg (AV.osl _ _ _) (by first | omega | (dsimp only; omega))) | exact Ent.of_eq (congrArg (AV.int _) (by first | omega | (dsimp only; omega)))) | refine And.intro ?_ ?_)) (trivial)) (fun x8 => ?_)
        try (have q8 := x8.2; dsimp only at q8)
        refine k_br (fun h9 => ?_) (fun h9 => ?_)
        · have g9 := cnd_dec_t h9
          refine k_req (by first | omega | (simp only [Int.toNat_natCast]; omega)) ?_
          refine k_req (by first | omega | (simp only [Int.toNat_natCast]; omega)) ?_
          refine k_sc (same_c (f (Int.toNat (↑x2.1 : Int))) (f (Int.toNat (↑(x8.1) : Int)))) ?_
          refine k_br (fun h13 => ?_) (fun h13 => ?_)
          · have g13 := cnd_id_t h13
            try simp only [Int.toNat_natCast] at g13
            exact k_out (Ent.of_eq (congrArg AV.bool (list_two (i := x2.1) (k := x8.1) (by omega) (by omega) g13).symm))
          · have g13 := cnd_id_f h13
            try simp only [Int.toNat_natCast] at g13
            exact k_again (⟨x8.1 + 1, by omega, fun k hk => by rcases Nat.lt_succ_iff_lt_or_eq.1 hk with hk | hk; (· exact q8.2 k hk); (· rw [hk]; exact g13)⟩) (fun _ hs => hs.le (by repeat' (first | exact trivial | (first | exact Ent.refl _ | exact inc_ent (by omega) | exact Ent.nil rfl | exact Ent.of_eq (congrArg (AV.osl _ _ _) (by first | omega | (dsimp only; omega))) | exact Ent.of_eq (congrArg (AV.int _) (by first | omega | (dsimp only; omega)))) | refine And.intro ?_ ?_)) (trivial)) (by first | omega | (dsimp only; omega) | (simp; omega))
        · have g9 := cnd_dec_f h9
          exact k_again (⟨x2.1 + 1, by omega, fun i hi => by rcases Nat.lt_succ_iff_lt_or_eq.1 hi with hi | hi; (· exact q2.2 i hi); (· rw [hi]; exact ⟨g6, fun k hk => q8.2 k (by omega)⟩)⟩) (fun _ hs => hs.le (by repeat' (first | exact trivial | (first | exact Ent.refl _ | exact inc_ent (by omega) | exact Ent.nil rfl | exact Ent.of_eq (congrArg (AV.osl _ _ _) (by first | omega | (dsimp only; omega))) | exact Ent.of_eq (congrArg (AV.int _) (by first | omega | (dsimp only; omega)))) | refine And.intro ?_ ?_)) (trivial)) (by first | omega | (dsimp only; omega) | (simp; omega))
    · have g3 := cnd_dec_f h3
      exact k_out (Ent.of_eq (congrArg AV.bool (list_ok (by omega) (fun i hi => q2.2 i (by omega))).symm))

end Go.Proofs.YtbmdmoknnlhdoaaGreatDoor.U
