/- Part of the proof: FV4, FS16, FS17, FS18, FS19, FS20, Inv, FE1, FE2, Nod, Exp. -/
import Derived.Test.YtdaaddkipdmajaaGreatDoorM5
import Derived.Test.YtdaaddkipdmajaaGreatDoorProg
import Derived.Test.YtdaaddkipdmajaaGreatDoorM3
import Derived.Test.YtdaaddkipdmajaaGreatDoorM4
namespace Go.Proofs.YtdaaddkipdmajaaGreatDoor
open Go Go.Am Go.Sp
set_option maxRecDepth 100000

abbrev kFV40 : List AV := [AV.agg [Zb 0, Zb 0, Zb 0, Zb 0, Zb 0, Zb 0, Zb 0, Zb 0, Zb 0, Zb 0, Zb 0, Zb 0, Zb 0, Zb 0, Zb 0, Zb 0, Zb 0, Zb 0, Zb 0, Zb 0, Zb 0, Zb 0, Zb 0, Zb 0, Zb 0, Zb 0, Zb 0, Zb 0, Zb 0, Zb 0, Zb 0, Zb 0], Zi 2]
abbrev kFV41 : List AV := [AV.agg [Zb 0, Zb 0, Zb 0, Zb 0, Zb 0, Zb 0, Zb 0, Zb 0, Zb 0, Zb 0, Zb 0, Zb 0, Zb 0, Zb 0, Zb 0, Zb 0, Zb 0, Zb 0, Zb 0, Zb 0, Zb 0, Zb 0, Zb 0, Zb 0, Zb 0, Zb 0, Zb 0, Zb 0, Zb 0, Zb 0, Zb 0, Zb 0], Zi 3]
theorem depth_c (d : Nat) (hd : d ≤ 5) : Pure Tryz.prog gl0 201 [.int .i64 (2 ^ d : Nat)] (.tup [.int .i64 d, .int .i64 0]) := by
  refine pure_sk (own := ow0) Tryz.func201 (by kernel_rfl) mixed (by kernel_rfl)
    (.loop ({ x : Nat // x ≤ d }) (fun (x : { x : Nat // x ≤ d }) => mkSt [0, 5] [Zi (↑(2 ^ d) : Int), Zi (↑(x.1) : Int)] []) (fun (x : { x : Nat // x ≤ d }) => d - x.1) (⟨0, Nat.zero_le d⟩) ([0, 5]) ([]) ([Zi (↑(2 ^ d) : Int), Zi 0]) ([]) (fun x0 => (.br (decide ((↑x0.1 : Int) < 11)) (.req ((0 : Int) ≤ (↑x0.1 : Int)) (.br ((↑(2 ^ d) : Int) == IntKind.wrap IntKind.i64 ((1 : Int) * 2 ^ min (Int.toNat (↑x0.1 : Int)) 64)) (.out (AV.tup [Zi (↑x0.1 : Int), Zi 0]) [] (AV.tup [Zi (↑d : Int), Zi 0]) []) (.again (Again 0 (fun (x : { x : Nat // x ≤ d }) => mkSt [0, 5] [Zi (↑(2 ^ d) : Int), Zi (↑(x.1) : Int)] []) (fun (x : { x : Nat // x ≤ d }) => d - x.1) x0) ([0, 5]) ([]) ([Zi (↑(2 ^ d) : Int), Zi (IntKind.wrap IntKind.i64 ((↑x0.1 : Int) + 1))]) ([])))) (.out (AV.tup [Zi 0, Zi 1]) [] (AV.tup [Zi (↑d : Int), Zi 0]) []))))
    (by kernel_rfl) ?_
  refine k_loop (fun _ hs => hs.le (⟨.refl _, .refl _, trivial⟩) (trivial)) (fun x0 => ?_)
  try (have q0 := x0.2; dsimp only at q0)
  refine k_br (fun h1 => ?_) (fun h1 => ?_)
  · have g1 := cnd_dec_t h1
    refine k_req (by omega) ?_
    refine k_br (fun h3 => ?_) (fun h3 => ?_)
    · have g3 := cnd_beq_t h3
      try simp only [Int.toNat_natCast] at g3
      exact k_out (by exact Ent.of_eq (congrArg (fun k : Nat => AV.tup [.int .i64 k, .int .i64 0]) (dep_t (d := d) (by omega) (by omega) g3).symm))
    · have g3 := cnd_beq_f h3
      try simp only [Int.toNat_natCast] at g3
      exact k_again (⟨x0.1 + 1, by have := dep_f (d := d) (by omega) g3; omega⟩) (fun _ hs => hs.le (⟨.refl _, inc_ent (by omega), trivial⟩) (trivial)) (by have := dep_f (d := d) (by omega) g3; dsimp only; omega)
  · have g1 := cnd_dec_f h1
    exact k_out (by (exfalso; omega))

theorem open0_c (d : Nat) (hd : d ≤ 5) (h : Nat → Nat → Int) (hb : ∀ i, i < 2 ^ d → byB (h i) 32) : Pure Tryz.prog gl0 139 [hsl (2 ^ d) h, .int .i64 0, .int .i64 0] (.tup [.isl 1 (d + 1) fun i _ => hsl (2 ^ (d - (d - i))) (treF h (d - i)), .int .i64 0]) := by
  refine pure_sk (own := ow0) Tryz.func139 (by kernel_rfl) mixed (by kernel_rfl)
    (let y0 : AV := (AV.tup [AV.isl 1 (d + 1) fun (i x : Nat) => hsl (2 ^ (d - (d - i))) (treF h (d - i)), Zi 0]); (.sc (true) 201 ([Zi (↑(2 ^ d) : Int)]) (AV.tup [Zi (↑d : Int), Zi 0]) (.ff (.req (((decide ((0 : Int) > (↑d : Int)) || false) == false) = true → (0 : Int) ≤ 0) (.br (decide ((0 : Int) > (↑d : Int)) || false || false) (.out (AV.tup [AV.nsl, Zi 2]) [] y0 []) (.dc (true) 202 ([AV.isl 32 (2 ^ d) fun (i j : Nat) => Zb (h i j)]) (AV.isl 1 (d + 1) fun (i x : Nat) => hsl (2 ^ (d - (d - i))) (treF h (d - i))) (.out (AV.tup [AV.isl 1 (d + 1) fun (i x : Nat) => AV.isl 32 (2 ^ (d - (d - i))) fun (i_1 j : Nat) => Zb (treF h (d - i) i_1 j), Zi 0]) [] y0 [])))))))
    (by kernel_rfl) ?_
  refine k_sc ((depth_c d) (by assumption)) ?_
  refine k_ff ?_
  refine k_req (fun _ => Int.le_refl _) ?_
  refine k_br (fun h3 => ?_) (fun h3 => ?_)
  · have g3 := (cnd_or_t (cnd_or_t cnd_dec_t cnd_id_t) cnd_id_t) h3
    exact k_out (by (exfalso; simp at g3; omega))
  · have g3 := (cnd_or_f (cnd_or_f cnd_dec_f cnd_id_f) cnd_id_f) h3
    refine k_dc (levels_c (d) (by assumption) (h) (by assumption)) ?_
    exact k_out (by exact Ent.refl _)

theorem tn0_c (d : Nat) (hd : d ≤ 5) (h : Nat → Nat → Int) (hb : ∀ i, i < 2 ^ d → byB (h i) 32) : Pure Tryz.prog gl0 138 [hsl (2 ^ d) h, .int .i64 0, .int .i64 0] (.tup [.agg (u8c (treF h d 0)), .int .i64 0]) := by
  refine pure_sk (own := ow0) Tryz.func138 (by kernel_rfl) mixed (by kernel_rfl)
    (.dc (true) 139 ([AV.isl 32 (2 ^ d) fun (i j : Nat) => Zb (h i j), Zi 0, Zi 0]) (AV.tup [AV.isl 1 (d + 1) fun (i x : Nat) => hsl (2 ^ (d - (d - i))) (treF h (d - i)), Zi 0]) (.ff (.req ((0 : Int) ≤ 0 ∧ (0 : Int) < (↑(d + 1) : Int)) (.req ((0 : Int) ≤ 0 ∧ (0 : Int) < (↑(2 ^ (d - (d - 0))) : Int)) (.out (AV.tup [AV.agg (u8c (treF h (d - 0) 0)), Zi 0]) [] (AV.tup [AV.agg (u8c (treF h d 0)), Zi 0]) [])))))
    (by kernel_rfl) ?_
  refine k_dc (open0_c (d) (by assumption) (h) (by assumption)) ?_
  refine k_ff ?_
  refine k_req (by omega) ?_
  refine k_req (by exact ⟨by omega, Int.ofNat_lt.2 pow_pos2⟩) ?_
  exact k_out (Ent.refl _)

theorem troot_c (d : Nat) (hd : d ≤ 5) (h : Nat → Nat → Int) (hb : ∀ i, i < 2 ^ d → byB (h i) 32) : Pure Tryz.prog gl0 58 [hsl (2 ^ d) h] (.tup [.agg (u8c (treF h d 0)), .int .i64 0]) := by
  refine pure_sk (own := ow0) Tryz.func58 (by kernel_rfl) mixed (by kernel_rfl)
    (let y0 : AV := (AV.tup [AV.agg (u8c (treF h d 0)), Zi 0]); (.sc (true) 138 ([AV.isl 32 (2 ^ d) fun (i j : Nat) => Zb (h i j), Zi 0, Zi 0]) y0 (.out y0 [] y0 [])))
    (by kernel_rfl) ?_
  refine k_sc (tn0_c (d) (by assumption) (h) (by assumption)) ?_
  exact k_out (Ent.of_eq rfl)

theorem tleaf_c (n : Nat) (f : Nat → Int) (hn : n ≤ 16384) (hf : byB f n) : Pure Tryz.prog gl0 137 [bys n f] (.tup [.agg (u8c (tagF "specie/leaf".toUTF8 n f)), .int .i64 0]) := by
  have ht := tagged_c "specie/leaf".toUTF8 (by decide) (by decide) f n (by omega) hf
  refine pure_sk (own := ow0) Tryz.func137 (by kernel_rfl) mixed (by kernel_rfl)
    (let y0 : AV := (AV.tup [AV.agg (u8c (tagF (String.toUTF8 "specie/leaf") n f)), Zi 0]); (.br (decide ((↑n : Int) > 16384)) (.out (AV.tup [AV.agg [Zb 0, Zb 0, Zb 0, Zb 0, Zb 0, Zb 0, Zb 0, Zb 0, Zb 0, Zb 0, Zb 0, Zb 0, Zb 0, Zb 0, Zb 0, Zb 0, Zb 0, Zb 0, Zb 0, Zb 0, Zb 0, Zb 0, Zb 0, Zb 0, Zb 0, Zb 0, Zb 0, Zb 0, Zb 0, Zb 0, Zb 0, Zb 0], Zi 5]) [] y0 []) (.sc (true) 149 ([AV.str { data := #[(115 : UInt8), (112 : UInt8), (101 : UInt8), (99 : UInt8), (105 : UInt8), (101 : UInt8), (47 : UInt8), (108 : UInt8), (101 : UInt8), (97 : UInt8), (102 : UInt8)] }, AV.isl 1 n fun (i x : Nat) => Zb (f i)]) y0 (.out y0 [] y0 []))))
    (by kernel_rfl) ?_
  refine k_br (fun h0 => ?_) (fun h0 => ?_)
  · have g0 := cnd_dec_t h0
    exact k_out (by (exfalso; omega))
  · have g0 := cnd_dec_f h0
    refine k_sc (ht) ?_
    exact k_out (by exact Ent.refl _)

theorem rtleaf_c (n : Nat) (f : Nat → Int) (hn : n ≤ 16384) (hf : byB f n) : Pure Tryz.prog gl0 142 [bys n f] (.agg (u8c (tagF "specie/leaf".toUTF8 n f))) := by
  have ht := rtagged_c "specie/leaf".toUTF8 (by decide) f n (by omega) hf
  refine pure_sk (own := ow0) Tryz.func142 (by kernel_rfl) mixed (by kernel_rfl)
    (let y0 : AV := (AV.agg (u8c (tagF (String.toUTF8 "specie/leaf") n f))); (.sc (true) 123 ([AV.str { data := #[(115 : UInt8), (112 : UInt8), (101 : UInt8), (99 : UInt8), (105 : UInt8), (101 : UInt8), (47 : UInt8), (108 : UInt8), (101 : UInt8), (97 : UInt8), (102 : UInt8)] }, AV.isl 1 n fun (i x : Nat) => Zb (f i)]) y0 (.out y0 [] y0 [])))
    (by kernel_rfl) ?_
  refine k_sc (ht) ?_
  exact k_out (by exact Ent.refl _)

theorem tn_base (d : Nat) (hd : d ≤ 5) (h : Nat → Nat → Int) (i : Nat) (hi : i < 2 ^ d) : Pure Tryz.prog gl0 76 [hsl (2 ^ d) h, .int .i64 d, .int .i64 i] (.agg (u8c (h i))) := by
  have w := shw (x := d) (by omega)
  refine pure_sk (own := ow0) Tryz.func76 (by kernel_rfl) mixed (by kernel_rfl)
    (.req ((0 : Int) ≤ (↑d : Int)) (.br (IntKind.wrap IntKind.i64 ((1 : Int) * 2 ^ min (Int.toNat (↑d : Int)) 64) == (↑(2 ^ d) : Int)) (.req ((0 : Int) ≤ (↑i : Int) ∧ (↑i : Int) < (↑(2 ^ d) : Int)) (.out (AV.agg (u8c (h (Int.toNat (↑i : Int))))) [] (AV.agg (u8c (h i))) [])) .no))
    (by kernel_rfl) ?_
  refine k_req (by omega) ?_
  refine k_br (fun h1 => ?_) (fun h1 => ?_)
  · have g1 := cnd_beq_t h1
    try simp only [Int.toNat_natCast] at g1
    refine k_req (by omega) ?_
    exact k_out (Ent.refl _)
  · have g1 := cnd_beq_f h1
    try simp only [Int.toNat_natCast] at g1
    exact (show False from (g1 w))

theorem tn_step (d : Nat) (hd : d ≤ 5) (h : Nat → Nat → Int) (L i : Nat) (hL : L < d) (hi : i < 2 ^ L) (u v : Nat → Int) (hu : byB u 32) (hv : byB v 32) (a1 : Pure Tryz.prog gl0 76 [hsl (2 ^ d) h, .int .i64 (L + 1 : Nat), .int .i64 (2 * i : Nat)] (.agg (u8c u)))
    (a2 : Pure Tryz.prog gl0 76 [hsl (2 ^ d) h, .int .i64 (L + 1 : Nat), .int .i64 (2 * i + 1 : Nat)] (.agg (u8c v))) : Pure Tryz.prog gl0 76 [hsl (2 ^ d) h, .int .i64 L, .int .i64 i] (.agg (u8c (nodeF u v))) := by
  have w := shw (x := L) (by omega)
  have hi5 : i < 32 := Nat.lt_of_lt_of_le hi (Nat.le_trans (Nat.pow_le_pow_right (by decide) (show L ≤ 5 by omega)) (by decide))
  have e1 : ((L + 1 : Nat) : Int) = IntKind.wrap .i64 ((L : Int) + 1) := by rw [wI (by omega) (by omega)]; rfl
  have e2 : ((2 * i : Nat) : Int) = IntKind.wrap .i64 (2 * (i : Int)) := by rw [wI (by omega) (by omega)]; rfl
  have e3 : ((2 * i + 1 : Nat) : Int) = IntKind.wrap .i64 (IntKind.wrap .i64 (2 * (i : Int)) + 1) := by rw [← e2, wI (by omega) (by omega)]; rfl
  rw [e1, e2] at a1
  rw [e1, e3] at a2
  have a3 := rinner_c u v hu hv
  refine pure_sk (own := ow0) Tryz.func76 (by kernel_rfl) mixed (by kernel_rfl)
    (let y0 : AV := (AV.agg (u8c (nodeF u v))); (.req ((0 : Int) ≤ (↑L : Int)) (.br (IntKind.wrap IntKind.i64 ((1 : Int) * 2 ^ min (Int.toNat (↑L : Int)) 64) == (↑(2 ^ d) : Int)) (.req ((0 : Int) ≤ (↑i : Int) ∧ (↑i : Int) < (↑(2 ^ d) : Int)) (.out (AV.agg (u8c (h (Int.toNat (↑i : Int))))) [] y0 [])) (.sc (true) 76 ([AV.isl 32 (2 ^ d) fun (i j : Nat) => Zb (h i j), Zi (IntKind.wrap IntKind.i64 ((↑L : Int) + 1)), Zi (IntKind.wrap IntKind.i64 ((2 : Int) * (↑i : Int)))]) (AV.agg (u8c u)) (.sc (true) 76 ([AV.isl 32 (2 ^ d) fun (i j : Nat) => Zb (h i j), Zi (IntKind.wrap IntKind.i64 ((↑L : Int) + 1)), Zi (IntKind.wrap IntKind.i64 (IntKind.wrap IntKind.i64 ((2 : Int) * (↑i : Int)) + 1))]) (AV.agg (u8c v)) (.sc (true) 156 ([AV.agg (u8c u), AV.agg (u8c v)]) y0 (.out y0 [] y0 [])))))))
    (by kernel_rfl) ?_
  refine k_req (by omega) ?_
  refine k_br (fun h1 => ?_) (fun h1 => ?_)
  · have g1 := cnd_beq_t h1
    try simp only [Int.toNat_natCast] at g1
    refine k_req (by omega) ?_
    exact k_out (by (exfalso; rw [w] at g1; exact absurd (pow_inj (by omega) (by omega) (Int.ofNat_inj.1 g1)) (by omega)))
  · have g1 := cnd_beq_f h1
    try simp only [Int.toNat_natCast] at g1
    refine k_sc (a1) ?_
    refine k_sc (a2) ?_
    refine k_sc (a3) ?_
    exact k_out (by exact Ent.refl _)

theorem tnode_c (d : Nat) (hd : d ≤ 5) (h : Nat → Nat → Int) (hb : ∀ i, i < 2 ^ d → byB (h i) 32) : ∀ k i : Nat, k ≤ d → i < 2 ^ (d - k) → Pure Tryz.prog gl0 76 [hsl (2 ^ d) h, .int .i64 (d - k : Nat), .int .i64 i] (.agg (u8c (treF h k i)))
  | 0, i, hk, hi => tn_base d hd h i hi
  | k + 1, i, hk, hi => by
    have hp : 2 * 2 ^ (d - (k + 1)) = 2 ^ (d - k) := pow_dbl (by omega)
    have e : d - (k + 1) + 1 = d - k := by omega
    have b1 := tnode_c d hd h hb k (2 * i) (by omega) (by omega)
    have b2 := tnode_c d hd h hb k (2 * i + 1) (by omega) (by omega)
    rw [← e] at b1 b2
    have hby : ∀ j, j < 2 ^ (d - k) → byB (treF h k j) 32 := fun j hj => tre_by hb k j (by
      have e := Nat.mul_le_mul_right (2 ^ k) (show j + 1 ≤ 2 ^ (d - k) from hj)
      rw [Nat.add_mul, Nat.one_mul, ← Nat.pow_add, show d - k + k = d by omega] at e
      exact e)
    exact tn_step d hd h (d - (k + 1)) i (by omega) hi _ _ (hby _ (by omega)) (hby _ (by omega)) b1 b2

theorem fol_ok (h : Nat → Int) (i : Int) (n : Nat) (P : Nat → Nat → Int) (hn : n ≤ 5) (hi : 0 ≤ i) (hi' : i < (2 ^ n : Nat)) (hh : byB h 32) (hP : ∀ k, k < n → byB (P k) 32) :
    Pure Tryz.prog gl0 153 [.agg (u8c h), .int .i64 n, .agg [.int .i64 i, hsl n P]] (.tup [.agg (u8c (folF h i P n)), .int .i64 0]) := by
  have w := shw (x := n) (by omega)
  have hi5 : i < 32 := Int.lt_of_lt_of_le hi' (Int.ofNat_le.2 (Nat.le_trans (Nat.pow_le_pow_right (by decide) hn) (by decide)))
  rw [← w] at hi'
  refine pure_sk (own := ow0) Tryz.func153 (by kernel_rfl) mixed (by kernel_rfl)
    (let y0 : List AV := [Zb 0, Zb 0, Zb 0, Zb 0, Zb 0, Zb 0, Zb 0, Zb 0, Zb 0, Zb 0, Zb 0, Zb 0, Zb 0, Zb 0, Zb 0, Zb 0, Zb 0, Zb 0, Zb 0, Zb 0, Zb 0, Zb 0, Zb 0, Zb 0, Zb 0, Zb 0, Zb 0, Zb 0, Zb 0, Zb 0, Zb 0, Zb 0]; (.req (((decide ((↑n : Int) < 0) || decide ((↑n : Int) > 10) || decide (i < 0)) == false) = true → (0 : Int) ≤ (↑n : Int)) (.br (decide ((↑n : Int) < 0) || decide ((↑n : Int) > 10) || decide (i < 0) || decide (i ≥ IntKind.wrap IntKind.i64 ((1 : Int) * 2 ^ min (Int.toNat (↑n : Int)) 64))) (.out (AV.tup kFV40) [] (AV.tup [AV.agg (u8c (folF h i P n)), Zi 0]) []) (.br ((↑n : Int) != (↑n : Int)) (.out (AV.tup kFV41) [] (AV.tup [AV.agg (u8c (folF h i P n)), Zi 0]) []) (.loop ({ x : Nat // x ≤ n }) (fun (x : { x : Nat // x ≤ n }) => mkSt [3, 6, 39, 40, 8, 41] [AV.own 0 32 0 0 32, AV.own 1 32 0 0 32, AV.isl 32 n fun (i j : Nat) => Zb (P i j), Zi (↑n : Int), Zi (i / 2 ^ x.1), Zi (↑(x.1) : Int)] [some ⟨32, 1, true, Rep.fn fun (x_1 j : Nat) => Zb (folF h i P (x.1) j)⟩, some ⟨32, 1, true, Rep.lst [y0]⟩]) (fun (x : { x : Nat // x ≤ n }) => n - x.1) (⟨0, Nat.zero_le n⟩) ([3, 6, 39, 40, 8, 41]) ([0, 16]) ([AV.own 0 32 0 0 32, AV.own 1 32 0 0 32, AV.isl 32 n fun (i j : Nat) => Zb (P i j), Zi (↑n : Int), Zi i, Zi 0]) ([some ⟨32, 1, true, Rep.lst [u8c h]⟩, some ⟨32, 1, true, Rep.lst [y0]⟩]) (fun x5 => (.br (decide ((↑x5.1 : Int) < (↑n : Int))) (.req ((0 : Int) ≤ (↑x5.1 : Int) ∧ (↑x5.1 : Int) < (↑n : Int)) (.br (Int.tmod (i / 2 ^ x5.1) (2 : Int) == 0) (.sc (true) 217 ([AV.agg (u8c (folF h i P x5.1)), AV.agg (u8c (P (Int.toNat (↑x5.1 : Int))))]) (AV.agg (u8c (nodeF (folF h i P x5.1) (P (Int.toNat (↑x5.1 : Int)))))) (.again (Again 0 (fun (x : { x : Nat // x ≤ n }) => mkSt [3, 6, 39, 40, 8, 41] [AV.own 0 32 0 0 32, AV.own 1 32 0 0 32, AV.isl 32 n fun (i j : Nat) => Zb (P i j), Zi (↑n : Int), Zi (i / 2 ^ x.1), Zi (↑(x.1) : Int)] [some ⟨32, 1, true, Rep.fn fun (x_1 j : Nat) => Zb (folF h i P (x.1) j)⟩, some ⟨32, 1, true, Rep.lst [y0]⟩]) (fun (x : { x : Nat // x ≤ n }) => n - x.1) x5) ([3, 6, 39, 40, 8, 41]) ([0, 1]) ([AV.own 0 32 0 0 32, AV.own 1 32 0 0 32, AV.isl 32 n fun (i j : Nat) => Zb (P i j), Zi (↑n : Int), Zi (IntKind.wrap IntKind.i64 (Int.tdiv (i / 2 ^ x5.1) (2 : Int))), Zi (IntKind.wrap IntKind.i64 ((↑x5.1 : Int) + 1))]) ([some ⟨32, 1, true, Rep.fn fun (i_1 j : Nat) => Zb (bif Nat.beq i_1 0 && (Nat.ble 0 j && Nat.blt j 32) then intOfAV (atL (u8c (nodeF (folF h i P x5.1) (P (Int.toNat (↑x5.1 : Int))))) (j - 0)) else folF h i P x5.1 j)⟩, some ⟨32, 1, true, Rep.lst [y0]⟩]))) (.sc (true) 217 ([AV.agg (u8c (P (Int.toNat (↑x5.1 : Int)))), AV.agg (u8c (folF h i P x5.1))]) (AV.agg (u8c (nodeF (P (Int.toNat (↑x5.1 : Int))) (folF h i P x5.1)))) (.again (Again 0 (fun (x : { x : Nat // x ≤ n }) => mkSt [3, 6, 39, 40, 8, 41] [AV.own 0 32 0 0 32, AV.own 1 32 0 0 32, AV.isl 32 n fun (i j : Nat) => Zb (P i j), Zi (↑n : Int), Zi (i / 2 ^ x.1), Zi (↑(x.1) : Int)] [some ⟨32, 1, true, Rep.fn fun (x_1 j : Nat) => Zb (folF h i P (x.1) j)⟩, some ⟨32, 1, true, Rep.lst [y0]⟩]) (fun (x : { x : Nat // x ≤ n }) => n - x.1) x5) ([3, 6, 39, 40, 8, 41]) ([0, 1]) ([AV.own 0 32 0 0 32, AV.own 1 32 0 0 32, AV.isl 32 n fun (i j : Nat) => Zb (P i j), Zi (↑n : Int), Zi (IntKind.wrap IntKind.i64 (Int.tdiv (i / 2 ^ x5.1) (2 : Int))), Zi (IntKind.wrap IntKind.i64 ((↑x5.1 : Int) + 1))]) ([some ⟨32, 1, true, Rep.fn fun (i_1 j : Nat) => Zb (bif Nat.beq i_1 0 && (Nat.ble 0 j && Nat.blt j 32) then intOfAV (atL (u8c (nodeF (P (Int.toNat (↑x5.1 : Int))) (folF h i P x5.1))) (j - 0)) else folF h i P x5.1 j)⟩, some ⟨32, 1, true, Rep.lst [y0]⟩]))))) (.out (AV.tup [AV.agg (u8c (folF h i P x5.1)), Zi 0]) [] (AV.tup [AV.agg (u8c (folF h i P n)), Zi 0]) []))))))))
    (by kernel_rfl) ?_
  refine k_req (fun hr => by have hr := (cnd_eqf_t (cnd_or_f (cnd_or_f cnd_dec_f cnd_dec_f) cnd_dec_f)) hr; omega) ?_
  refine k_br (fun h1 => ?_) (fun h1 => ?_)
  · have g1 := (cnd_or_t (cnd_or_t (cnd_or_t cnd_dec_t cnd_dec_t) cnd_dec_t) cnd_dec_t) h1
    try simp only [Int.toNat_natCast] at g1
    exact k_out (by (exfalso; omega))
  · have g1 := (cnd_or_f (cnd_or_f (cnd_or_f cnd_dec_f cnd_dec_f) cnd_dec_f) cnd_dec_f) h1
    try simp only [Int.toNat_natCast] at g1
    refine k_br (fun h3 => ?_) (fun h3 => ?_)
    · have g3 := cnd_bne_t h3
      exact k_out (by (exfalso; omega))
    · have g3 := cnd_bne_f h3
      refine k_loop (fun _ hs => hs.le (⟨.refl _, .refl _, .refl _, .refl _, Ent.of_eq (congrArg _ (by rw [show i / 2 ^ 0 = i by simp])), .refl _, trivial⟩) (⟨ObEnt.rowR rfl, ObEnt.refl _, trivial⟩)) (fun x5 => ?_)
      try (have q5 := x5.2; dsimp only at q5)
      refine k_br (fun h6 => ?_) (fun h6 => ?_)
      · have g6 := cnd_dec_t h6
        refine k_req (by omega) ?_
        refine k_br (fun h8 => ?_) (fun h8 => ?_)
        · have g8 := cnd_beq_t h8
          refine k_sc (inner_c (folF h i P x5.1) (P (Int.toNat (↑x5.1 : Int))) (by exact fol_by hh _) (by exact hP _ (by omega))) ?_
          exact k_again (⟨x5.1 + 1, by omega⟩) (fun _ hs => hs.le (⟨.refl _, .refl _, .refl _, .refl _, Ent.of_eq (congrArg _ (half_w hi (by omega))), inc_ent (by omega), trivial⟩) (⟨fol_ob (fol_t hi g8), ObEnt.refl _, trivial⟩)) (by dsimp only; omega)
        · have g8 := cnd_beq_f h8
          refine k_sc (inner_c (P (Int.toNat (↑x5.1 : Int))) (folF h i P x5.1) (by exact hP _ (by omega)) (by exact fol_by hh _)) ?_
          exact k_again (⟨x5.1 + 1, by omega⟩) (fun _ hs => hs.le (⟨.refl _, .refl _, .refl _, .refl _, Ent.of_eq (congrArg _ (half_w hi (by omega))), inc_ent (by omega), trivial⟩) (⟨fol_ob (fol_f hi g8), ObEnt.refl _, trivial⟩)) (by dsimp only; omega)
      · have g6 := cnd_dec_f h6
        exact k_out (by exact Ent.of_eq (congrArg (fun k : Nat => AV.tup [.agg (u8c (folF h i P k)), .int .i64 0]) (by omega)))

theorem fol_no (h : Nat → Int) (i : Int) (l n : Nat) (P : Nat → Nat → Int) (hl : l ≤ 5) (hne : n ≠ l) (hn : n ≤ 1000000) (hi : 0 ≤ i) (hi' : i < (2 ^ l : Nat)) :
    Pure Tryz.prog gl0 153 [.agg (u8c h), .int .i64 l, .agg [.int .i64 i, hsl n P]] (.tup [.agg (u8c fun _ => 0), .int .i64 3]) := by
  have w := shw (x := l) (by omega)
  rw [← w] at hi'
  refine pure_sk (own := ow0) Tryz.func153 (by kernel_rfl) mixed (by kernel_rfl)
    (let y0 : AV := (AV.tup [AV.agg (u8c fun (x : Nat) => (0 : Int)), Zi 3]); (.req (((decide ((↑l : Int) < 0) || decide ((↑l : Int) > 10) || decide (i < 0)) == false) = true → (0 : Int) ≤ (↑l : Int)) (.br (decide ((↑l : Int) < 0) || decide ((↑l : Int) > 10) || decide (i < 0) || decide (i ≥ IntKind.wrap IntKind.i64 ((1 : Int) * 2 ^ min (Int.toNat (↑l : Int)) 64))) (.out (AV.tup kFV40) [] y0 []) (.br ((↑n : Int) != (↑l : Int)) (.out (AV.tup kFV41) [] y0 []) .no))))
    (by kernel_rfl) ?_
  refine k_req (fun hr => by have hr := (cnd_eqf_t (cnd_or_f (cnd_or_f cnd_dec_f cnd_dec_f) cnd_dec_f)) hr; omega) ?_
  refine k_br (fun h1 => ?_) (fun h1 => ?_)
  · have g1 := (cnd_or_t (cnd_or_t (cnd_or_t cnd_dec_t cnd_dec_t) cnd_dec_t) cnd_dec_t) h1
    try simp only [Int.toNat_natCast] at g1
    exact k_out (by (exfalso; omega))
  · have g1 := (cnd_or_f (cnd_or_f (cnd_or_f cnd_dec_f cnd_dec_f) cnd_dec_f) cnd_dec_f) h1
    try simp only [Int.toNat_natCast] at g1
    refine k_br (fun h3 => ?_) (fun h3 => ?_)
    · have g3 := cnd_bne_t h3
      exact k_out (by exact Ent.refl _)
    · have g3 := cnd_bne_f h3
      exact (show False from (hne (by omega)))

theorem tver_ok (r h : Nat → Int) (i : Int) (n : Nat) (P : Nat → Nat → Int) (hn : n ≤ 5) (hi : 0 ≤ i) (hi' : i < (2 ^ n : Nat)) (hh : byB h 32) (hP : ∀ k, k < n → byB (P k) 32) :
    Pure Tryz.prog gl0 73 [.agg (u8c r), .agg (u8c h), .int .i64 n, .agg [.int .i64 i, hsl n P]] (.bool (hEq (folF h i P n) r)) := by
  have hf := fol_ok h i n P hn hi hi' hh hP
  refine pure_sk (own := ow0) Tryz.func73 (by kernel_rfl) mixed (by kernel_rfl)
    (.sc (true) 153 ([AV.agg (u8c h), Zi (↑n : Int), AV.agg [Zi i, AV.isl 32 n fun (i j : Nat) => Zb (P i j)]]) (AV.tup [AV.agg (u8c (folF h i P n)), Zi 0]) (.out (AV.bool (folF h i P n 0 == r 0 && (folF h i P n 1 == r 1 && (folF h i P n 2 == r 2 && (folF h i P n 3 == r 3 && (folF h i P n 4 == r 4 && (folF h i P n 5 == r 5 && (folF h i P n 6 == r 6 && (folF h i P n 7 == r 7 && (folF h i P n 8 == r 8 && (folF h i P n 9 == r 9 && (folF h i P n 10 == r 10 && (folF h i P n 11 == r 11 && (folF h i P n 12 == r 12 && (folF h i P n 13 == r 13 && (folF h i P n 14 == r 14 && (folF h i P n 15 == r 15 && (folF h i P n 16 == r 16 && (folF h i P n 17 == r 17 && (folF h i P n 18 == r 18 && (folF h i P n 19 == r 19 && (folF h i P n 20 == r 20 && (folF h i P n 21 == r 21 && (folF h i P n 22 == r 22 && (folF h i P n 23 == r 23 && (folF h i P n 24 == r 24 && (folF h i P n 25 == r 25 && (folF h i P n 26 == r 26 && (folF h i P n 27 == r 27 && (folF h i P n 28 == r 28 && (folF h i P n 29 == r 29 && (folF h i P n 30 == r 30 && (folF h i P n 31 == r 31 && true))))))))))))))))))))))))))))))))) [] (AV.bool (hEq (folF h i P n) r)) []))
    (by kernel_rfl) ?_
  refine k_sc (hf) ?_
  exact k_out (Ent.refl _)

theorem tver_no (r h : Nat → Int) (i : Int) (l n : Nat) (P : Nat → Nat → Int) (hl : l ≤ 5) (hne : n ≠ l) (hn : n ≤ 1000000) (hi : 0 ≤ i) (hi' : i < (2 ^ l : Nat)) :
    Pure Tryz.prog gl0 73 [.agg (u8c r), .agg (u8c h), .int .i64 l, .agg [.int .i64 i, hsl n P]] (.bool false) := by
  have hf := fol_no h i l n P hl hne hn hi hi'
  refine pure_sk (own := ow0) Tryz.func73 (by kernel_rfl) mixed (by kernel_rfl)
    (.sc (true) 153 ([AV.agg (u8c h), Zi (↑l : Int), AV.agg [Zi i, AV.isl 32 n fun (i j : Nat) => Zb (P i j)]]) (AV.tup [AV.agg (u8c fun (x : Nat) => (0 : Int)), Zi 3]) (.out (AV.bool false) [] (AV.bool false) []))
    (by kernel_rfl) ?_
  refine k_sc (hf) ?_
  exact k_out (Ent.refl _)

theorem rfol_c (h : Nat → Int) (i : Int) (n : Nat) (P : Nat → Nat → Int) (hn : n ≤ 1000000) (hi : 0 ≤ i) (hi' : i < 9223372036854775807) (hh : byB h 32) (hP : ∀ k, k < n → byB (P k) 32) :
    Pure Tryz.prog gl0 75 [.agg (u8c h), .agg [.int .i64 i, hsl n P]] (.agg (u8c (folF h i P n))) := by
  refine pure_sk (own := ow0) Tryz.func75 (by kernel_rfl) mixed (by kernel_rfl)
    (let y0 : List AV := [Zb 0, Zb 0, Zb 0, Zb 0, Zb 0, Zb 0, Zb 0, Zb 0, Zb 0, Zb 0, Zb 0, Zb 0, Zb 0, Zb 0, Zb 0, Zb 0, Zb 0, Zb 0, Zb 0, Zb 0, Zb 0, Zb 0, Zb 0, Zb 0, Zb 0, Zb 0, Zb 0, Zb 0, Zb 0, Zb 0, Zb 0, Zb 0]; (.loop ({ x : Nat // x ≤ n }) (fun (x : { x : Nat // x ≤ n }) => mkSt [2, 3, 4, 5, 6] [AV.own 0 32 0 0 32, AV.own 1 2 0 0 2, AV.own 2 32 0 0 32, Zi (i / 2 ^ x.1), Zi (↑(x.1) : Int)] [some ⟨32, 1, true, Rep.fn fun (x_1 j : Nat) => Zb (folF h i P (x.1) j)⟩, some ⟨2, 1, true, Rep.lst [[Zi i, AV.isl 32 n fun (i j : Nat) => Zb (P i j)]]⟩, some ⟨32, 1, true, Rep.lst [y0]⟩]) (fun (x : { x : Nat // x ≤ n }) => n - x.1) (⟨0, Nat.zero_le n⟩) ([2, 3, 4, 5, 6]) ([0, 8, 16]) ([AV.own 0 32 0 0 32, AV.own 1 2 0 0 2, AV.own 2 32 0 0 32, Zi i, Zi 0]) ([some ⟨32, 1, true, Rep.lst [u8c h]⟩, some ⟨2, 1, true, Rep.lst [[Zi i, AV.isl 32 n fun (i j : Nat) => Zb (P i j)]]⟩, some ⟨32, 1, true, Rep.lst [y0]⟩]) (fun x0 => (.br (decide ((↑x0.1 : Int) < (↑n : Int))) (.br (Int.tmod (i / 2 ^ x0.1) (2 : Int) == 0) (.req ((0 : Int) ≤ (↑x0.1 : Int) ∧ (↑x0.1 : Int) < (↑n : Int)) (.sc (true) 156 ([AV.agg (u8c (folF h i P x0.1)), AV.agg (u8c (P (Int.toNat (↑x0.1 : Int))))]) (AV.agg (u8c (nodeF (folF h i P x0.1) (P (Int.toNat (↑x0.1 : Int)))))) (.again (Again 0 (fun (x : { x : Nat // x ≤ n }) => mkSt [2, 3, 4, 5, 6] [AV.own 0 32 0 0 32, AV.own 1 2 0 0 2, AV.own 2 32 0 0 32, Zi (i / 2 ^ x.1), Zi (↑(x.1) : Int)] [some ⟨32, 1, true, Rep.fn fun (x_1 j : Nat) => Zb (folF h i P (x.1) j)⟩, some ⟨2, 1, true, Rep.lst [[Zi i, AV.isl 32 n fun (i j : Nat) => Zb (P i j)]]⟩, some ⟨32, 1, true, Rep.lst [y0]⟩]) (fun (x : { x : Nat // x ≤ n }) => n - x.1) x0) ([2, 3, 4, 5, 6]) ([0, 1, 2]) ([AV.own 0 32 0 0 32, AV.own 1 2 0 0 2, AV.own 2 32 0 0 32, Zi (IntKind.wrap IntKind.i64 (Int.tdiv (i / 2 ^ x0.1) (2 : Int))), Zi (IntKind.wrap IntKind.i64 ((↑x0.1 : Int) + 1))]) ([some ⟨32, 1, true, Rep.fn fun (i_1 j : Nat) => Zb (bif Nat.beq i_1 0 && (Nat.ble 0 j && Nat.blt j 32) then intOfAV (atL (u8c (nodeF (folF h i P x0.1) (P (Int.toNat (↑x0.1 : Int))))) (j - 0)) else folF h i P x0.1 j)⟩, some ⟨2, 1, true, Rep.lst [[Zi i, AV.isl 32 n fun (i j : Nat) => Zb (P i j)]]⟩, some ⟨32, 1, true, Rep.lst [y0]⟩])))) (.req ((0 : Int) ≤ (↑x0.1 : Int) ∧ (↑x0.1 : Int) < (↑n : Int)) (.sc (true) 156 ([AV.agg (u8c (P (Int.toNat (↑x0.1 : Int)))), AV.agg (u8c (folF h i P x0.1))]) (AV.agg (u8c (nodeF (P (Int.toNat (↑x0.1 : Int))) (folF h i P x0.1)))) (.again (Again 0 (fun (x : { x : Nat // x ≤ n }) => mkSt [2, 3, 4, 5, 6] [AV.own 0 32 0 0 32, AV.own 1 2 0 0 2, AV.own 2 32 0 0 32, Zi (i / 2 ^ x.1), Zi (↑(x.1) : Int)] [some ⟨32, 1, true, Rep.fn fun (x_1 j : Nat) => Zb (folF h i P (x.1) j)⟩, some ⟨2, 1, true, Rep.lst [[Zi i, AV.isl 32 n fun (i j : Nat) => Zb (P i j)]]⟩, some ⟨32, 1, true, Rep.lst [y0]⟩]) (fun (x : { x : Nat // x ≤ n }) => n - x.1) x0) ([2, 3, 4, 5, 6]) ([0, 1, 2]) ([AV.own 0 32 0 0 32, AV.own 1 2 0 0 2, AV.own 2 32 0 0 32, Zi (IntKind.wrap IntKind.i64 (Int.tdiv (i / 2 ^ x0.1) (2 : Int))), Zi (IntKind.wrap IntKind.i64 ((↑x0.1 : Int) + 1))]) ([some ⟨32, 1, true, Rep.fn fun (i_1 j : Nat) => Zb (bif Nat.beq i_1 0 && (Nat.ble 0 j && Nat.blt j 32) then intOfAV (atL (u8c (nodeF (P (Int.toNat (↑x0.1 : Int))) (folF h i P x0.1))) (j - 0)) else folF h i P x0.1 j)⟩, some ⟨2, 1, true, Rep.lst [[Zi i, AV.isl 32 n fun (i j : Nat) => Zb (P i j)]]⟩, some ⟨32, 1, true, Rep.lst [y0]⟩]))))) (.out (AV.agg (u8c (folF h i P x0.1))) [] (AV.agg (u8c (folF h i P n))) [])))))
    (by kernel_rfl) ?_
  refine k_loop (fun _ hs => hs.le (⟨Ent.refl _, Ent.refl _, Ent.refl _, by exact Ent.of_eq (congrArg _ (by rw [show i / 2 ^ 0 = i by simp])), by exact Ent.refl _, trivial⟩) (⟨ObEnt.rowR rfl, ObEnt.refl _, ObEnt.refl _, trivial⟩)) (fun x0 => ?_)
  try (have q0 := x0.2; dsimp only at q0)
  refine k_br (fun h1 => ?_) (fun h1 => ?_)
  · have g1 := cnd_dec_t h1
    refine k_br (fun h2 => ?_) (fun h2 => ?_)
    · have g2 := cnd_beq_t h2
      refine k_req (by omega) ?_
      refine k_sc (rinner_c (folF h i P x0.1) (P (Int.toNat (↑x0.1 : Int))) (by exact fol_by hh _) (by exact hP _ (by omega))) ?_
      exact k_again (⟨x0.1 + 1, by omega⟩) (fun _ hs => hs.le (⟨Ent.refl _, Ent.refl _, Ent.refl _, by exact Ent.of_eq (congrArg _ (half_w hi (by omega))), by exact inc_ent (by omega), trivial⟩) (⟨fol_ob (fol_t hi g2), ObEnt.refl _, ObEnt.refl _, trivial⟩)) (by dsimp only; omega)
    · have g2 := cnd_beq_f h2
      refine k_req (by omega) ?_
      refine k_sc (rinner_c (P (Int.toNat (↑x0.1 : Int))) (folF h i P x0.1) (by exact hP _ (by omega)) (by exact fol_by hh _)) ?_
      exact k_again (⟨x0.1 + 1, by omega⟩) (fun _ hs => hs.le (⟨Ent.refl _, Ent.refl _, Ent.refl _, by exact Ent.of_eq (congrArg _ (half_w hi (by omega))), by exact inc_ent (by omega), trivial⟩) (⟨fol_ob (fol_f hi g2), ObEnt.refl _, ObEnt.refl _, trivial⟩)) (by dsimp only; omega)
  · have g1 := cnd_dec_f h1
    exact k_out (Ent.of_eq (congrArg (fun k : Nat => AV.agg (u8c (folF h i P k))) (by omega)))

end Go.Proofs.YtdaaddkipdmajaaGreatDoor

namespace Go.Proofs.YtdaaddkipdmajaaGreatDoor
open Go Go.Am Go.Sp
set_option maxRecDepth 100000

theorem rnum7_c (n : Int) (h0 : 0 ≤ n) (hn : n < 18446744073709551616) (size : Nat) (hs : 1 ≤ size) (hs' : size ≤ 8) : Pure Tryz.prog gl0 193 [.int .u64 n, .int .i64 size] (bys size (numB n size)) := by
  refine pure_sk (own := ow0) Tryz.func193 (by kernel_rfl) mixed (by kernel_rfl)
    (let y0 : Nat := (Int.toNat (↑size : Int)); (.req ((0 : Int) ≤ (↑size : Int) ∧ (↑size : Int) = (↑size : Int) ∧ (↑(1) : Int) * (↑size : Int) ≤ 140737488355328 ∧ (↑size : Int) ≤ 9223372036854775807) (.loop ({ x : Nat // x ≤ size }) (fun (x : { x : Nat // x ≤ size }) => mkSt [5, 0, 6] [AV.osl 0 1 0 y0, Zu (n / 256 ^ x.1), Zi ((↑size : Int) - 1 - (↑(x.1) : Int))] [some ⟨1, size, true, Rep.fn fun (i x_1 : Nat) => Zb (numT n size (x.1) i)⟩]) (fun (x : { x : Nat // x ≤ size }) => size - x.1) (⟨0, Nat.zero_le size⟩) ([5, 0, 6]) ([16]) ([AV.osl 0 1 0 y0, Zu n, Zi (IntKind.wrap IntKind.i64 ((↑size : Int) - 1))]) ([some ⟨1, Int.toNat (↑size : Int), true, Rep.fn fun (i j : Nat) => Zb (intOfAV (atL (zcells (Value.int IntKind.u8 (0 : Int))) j))⟩]) (fun x1 => (.br (decide ((↑size : Int) - 1 - (↑x1.1 : Int) ≥ 0)) (.req ((0 : Int) ≤ (↑size : Int) - 1 - (↑x1.1 : Int) ∧ (↑size : Int) - 1 - (↑x1.1 : Int) < (↑y0 : Int)) (.again (Again 0 (fun (x : { x : Nat // x ≤ size }) => mkSt [5, 0, 6] [AV.osl 0 1 0 y0, Zu (n / 256 ^ x.1), Zi ((↑size : Int) - 1 - (↑(x.1) : Int))] [some ⟨1, size, true, Rep.fn fun (i x_1 : Nat) => Zb (numT n size (x.1) i)⟩]) (fun (x : { x : Nat // x ≤ size }) => size - x.1) x1) ([5, 0, 6]) ([0]) ([AV.osl 0 1 0 y0, Zu (IntKind.wrap IntKind.u64 (Int.tdiv (n / 256 ^ x1.1) (256 : Int))), Zi (IntKind.wrap IntKind.i64 ((↑size : Int) - 1 - (↑x1.1 : Int) - 1))]) ([some ⟨1, size, true, Rep.fn fun (i j : Nat) => Zb (bif Nat.beq i (Int.toNat ((↑size : Int) - 1 - (↑x1.1 : Int)) + 0) && (Nat.ble 0 j && Nat.blt j 1) then IntKind.wrap IntKind.u8 (Int.tmod (n / 256 ^ x1.1) (256 : Int)) else numT n size x1.1 i)⟩]))) (.out (AV.isl 1 y0 fun (r k : Nat) => Zb (numT n size x1.1 (r + 0))) [] (bys size (numB n size)) []))))))
    (by kernel_rfl) ?_
  refine k_req (by omega) ?_
  refine k_loop (fun _ hs => hs.le (⟨by exact Ent.refl _, by exact Ent.of_eq (congrArg (AV.int _) (by first | omega | (dsimp only; omega))), Ent.of_eq (congrArg _ (by rw [wI (by omega) (by omega)]; dsimp only; omega)), trivial⟩) (⟨⟨rfl, by rfl, rfl, fun i j hi hj => Ent.of_eq (congrArg _ (num_z hi hj))⟩, trivial⟩)) (fun x1 => ?_)
  try (have q1 := x1.2; dsimp only at q1)
  refine k_br (fun h2 => ?_) (fun h2 => ?_)
  · have g2 := cnd_dec_t h2
    refine k_req (by omega) ?_
    exact k_again (⟨x1.1 + 1, by omega⟩) (fun _ hs => hs.le (⟨by exact Ent.refl _, Ent.of_eq (congrArg _ (num_qw h0 hn _)), Ent.of_eq (congrArg _ (by rw [wI (by omega) (by omega)]; dsimp only; omega)), trivial⟩) (⟨⟨rfl, rfl, rfl, fun i j hi hj => Ent.of_eq (congrArg _ (num_s h0 (by omega) hj))⟩, trivial⟩)) (by (dsimp only; omega))
  · have g2 := cnd_dec_f h2
    exact k_out (bys_eq (by omega) (fun i _ => num_full (by omega)))

end Go.Proofs.YtdaaddkipdmajaaGreatDoor

namespace Go.Proofs.YtdaaddkipdmajaaGreatDoor
open Go Go.Am Go.Sp
set_option maxRecDepth 100000

theorem renc_int (n : Int) : Pure Tryz.prog gl0 124 [.agg [.int .i64 1, .int .i64 n, bys 0 (fun _ => 0), .isl 4 0 (fun _ _ => .junk)]] (il .u8 (It.int n).enc) := by
  have hw := wu64_by n
  refine pure_sk (own := ow0) Tryz.func124 (by kernel_rfl) mixed (by kernel_rfl)
    (.tt (.dc (true) 193 ([Zu (IntKind.wrap IntKind.u64 n), Zi 8]) (bys 8 (numB (IntKind.wrap IntKind.u64 n) 8)) (.req (9 ≤ 140737488355328) (.out (AV.isl 1 9 fun (r k : Nat) => Zb (bif Nat.blt (r + 0) 1 then intOfAV (atL [Zb 1] k) else numB (IntKind.wrap IntKind.u64 n) 8 (r + 0 - 1))) [] (il IntKind.u8 (It.enc (It.int n))) []))))
    (by kernel_rfl) ?_
  refine k_tt ?_
  refine k_dc (rnum7_c (IntKind.wrap IntKind.u64 n) (by omega) (by omega) (8) (by omega) (by omega)) ?_
  refine k_req (by omega) ?_
  exact k_out (il_eq rfl (fun i hi => enc1 hi))

theorem renc_byt (n : Nat) (f : Nat → Int) (hn : n ≤ 1099511627776) : Pure Tryz.prog gl0 124 [.agg [.int .i64 2, .int .i64 0, bys n f, .isl 4 0 (fun _ _ => .junk)]] (il .u8 (It.byt n f).enc) := by
  have hw := wu64_by n
  have e : IntKind.wrap .u64 (n : Int) = n := wu64 (by omega) (by omega)
  refine pure_sk (own := ow0) Tryz.func124 (by kernel_rfl) mixed (by kernel_rfl)
    (.ff (.tt (.dc (true) 193 ([Zu (IntKind.wrap IntKind.u64 (↑n : Int)), Zi 4]) (bys 4 (numB (IntKind.wrap IntKind.u64 (↑n : Int)) 4)) (.req (5 ≤ 140737488355328) (.req ((5 + n) * 1 ≤ 140737488355328) (.out (AV.isl 1 (5 + n) fun (r k : Nat) => Zb (bif Nat.blt (r + 0) 5 then bif Nat.blt (r + 0) 1 then intOfAV (atL [Zb 2] k) else numB (IntKind.wrap IntKind.u64 (↑n : Int)) 4 (r + 0 - 1) else f (r + 0 - 5))) [] (il IntKind.u8 (It.enc (It.byt n f))) []))))))
    (by kernel_rfl) ?_
  refine k_ff ?_
  refine k_tt ?_
  refine k_dc (rnum7_c (IntKind.wrap IntKind.u64 (↑n : Int)) (by omega) (by omega) (4) (by omega) (by omega)) ?_
  refine k_req (by omega) ?_
  refine k_req (by omega) ?_
  exact k_out (il_eq (byt_len n f).symm (fun i hi => by
                                                                                                     rw [e]
                                                                                                     exact enc2 hi))

theorem renc_lw (n : Nat) (c : Nat → It) (E A : Nat → List Int) (hn : n ≤ 1099511627776) (h0 : A 0 = 3 :: nbL n 4) (hE : ∀ k, A (k + 1) = A k ++ E k) (hA : ∀ k, k ≤ n → (A k).length ≤ 1099511627776)
    (hc : ∀ i, i < n → Pure Tryz.prog gl0 124 [(c i).av] (il .u8 (E i))) : Pure Tryz.prog gl0 124 [.agg [.int .i64 3, .int .i64 0, bys 0 (fun _ => 0), It.sl n c]] (il .u8 (A n)) := by
  have hw := wu64_by n
  have e : IntKind.wrap .u64 (n : Int) = n := wu64 (by omega) (by omega)
  have l0 : (A 0).length = 5 := by rw [h0]; simp [nbL_len]
  have ls : ∀ k, (A (k + 1)).length = (A k).length + (E k).length := fun k => by rw [hE, List.length_append]
  refine pure_sk (own := ow0) Tryz.func124 (by kernel_rfl) mixed (by kernel_rfl)
    (let y0 : List AV := [Zi 3, Zi 0, AV.isl 1 0 fun (i x : Nat) => Zb 0, AV.isl 4 n fun (i j : Nat) => atL (It.cells (c i)) j]; (.ff (.ff (.dc (true) 193 ([Zu (IntKind.wrap IntKind.u64 (↑n : Int)), Zi 4]) (bys 4 (numB (IntKind.wrap IntKind.u64 (↑n : Int)) 4)) (.req (5 ≤ 140737488355328) (.loop ({ x : Nat // x ≤ n }) (fun (x : { x : Nat // x ≤ n }) => mkSt [1, 3, 4] [AV.own 0 4 0 0 4, AV.osl 1 1 0 (List.length (A (x.1))), Zi (↑(x.1) : Int)] [some ⟨4, 1, true, Rep.lst [y0]⟩, ilO IntKind.u8 (A (x.1))]) (fun (x : { x : Nat // x ≤ n }) => n - x.1) (⟨0, Nat.zero_le n⟩) ([1, 3, 4]) ([0, 112]) ([AV.own 0 4 0 0 4, AV.osl 1 1 0 5, Zi 0]) ([some ⟨4, 1, true, Rep.lst [y0]⟩, some ⟨1, 5, true, Rep.fn fun (i j : Nat) => Zb (bif Nat.blt i 1 then intOfAV (atL [Zb 3] j) else numB (IntKind.wrap IntKind.u64 (↑n : Int)) 4 (i - 1))⟩]) (fun x4 => (.br (decide ((↑x4.1 : Int) < (↑n : Int))) (.req ((0 : Int) ≤ (↑x4.1 : Int) ∧ (↑x4.1 : Int) < (↑n : Int)) (.dc (true) 124 ([AV.agg [Zi (It.kind (c (Int.toNat (↑x4.1 : Int)))), Zi (It.num (c (Int.toNat (↑x4.1 : Int)))), AV.isl 1 (It.nb (c (Int.toNat (↑x4.1 : Int)))) fun (i x : Nat) => Zb (It.fb (c (Int.toNat (↑x4.1 : Int))) i), AV.isl 4 (It.nl (c (Int.toNat (↑x4.1 : Int)))) (It.row (c (Int.toNat (↑x4.1 : Int))))]]) (il IntKind.u8 (E (Int.toNat (↑x4.1 : Int)))) (.req ((List.length (A (x4.1)) + List.length (E (Int.toNat (↑x4.1 : Int)))) * 1 ≤ 140737488355328) (.again (Again 0 (fun (x : { x : Nat // x ≤ n }) => mkSt [1, 3, 4] [AV.own 0 4 0 0 4, AV.osl 1 1 0 (List.length (A (x.1))), Zi (↑(x.1) : Int)] [some ⟨4, 1, true, Rep.lst [y0]⟩, ilO IntKind.u8 (A (x.1))]) (fun (x : { x : Nat // x ≤ n }) => n - x.1) x4) ([1, 3, 4]) ([0, 98]) ([AV.own 0 4 0 0 4, AV.osl 1 1 0 (List.length (A (x4.1)) + List.length (E (Int.toNat (↑x4.1 : Int)))), Zi (IntKind.wrap IntKind.i64 ((↑x4.1 : Int) + 1))]) ([some ⟨4, 1, true, Rep.lst [y0]⟩, some ⟨1, List.length (A (x4.1)) + List.length (E (Int.toNat (↑x4.1 : Int))), true, Rep.fn fun (i j : Nat) => Zb (bif Nat.blt i (List.length (A (x4.1))) then List.getD (A (x4.1)) i (0 : Int) else List.getD (E (Int.toNat (↑x4.1 : Int))) (i - List.length (A (x4.1))) (0 : Int))⟩]))))) (.out (AV.isl 1 (List.length (A (x4.1))) fun (r k : Nat) => Zb (List.getD (A (x4.1)) (r + 0) (0 : Int))) [] (il IntKind.u8 (A n)) [])))))))))
    (by kernel_rfl) ?_
  refine k_ff ?_
  refine k_ff ?_
  refine k_dc (rnum7_c (IntKind.wrap IntKind.u64 (↑n : Int)) (by omega) (by omega) (4) (by omega) (by omega)) ?_
  refine k_req (by omega) ?_
  refine k_loop (fun _ hs => hs.le (by repeat' (first | exact trivial | (first | exact Ent.refl _ | exact inc_ent (by omega) | exact Ent.nil rfl | exact Ent.of_eq (congrArg (AV.osl _ _ _) (by first | omega | (dsimp only; omega))) | exact Ent.of_eq (congrArg (AV.int _) (by omega))) | refine And.intro ?_ ?_)) (⟨by exact ObEnt.refl _, obl_eq l0.symm (fun i hi => by
                                                                                                     rw [e, h0]
                                                                                                     exact enc1 hi), trivial⟩)) (fun x4 => ?_)
  refine k_br (fun h5 => ?_) (fun h5 => ?_)
  · have g5 := cnd_dec_t h5
    refine k_req (by omega) ?_
    refine k_dc (hc (Int.toNat (↑x4.1 : Int)) (by omega)) ?_
    refine k_req (by have q1 := hA (x4.1 + 1) (by omega); have q2 := ls x4.1; simp only [Int.toNat_natCast]; omega) ?_
    exact k_again (⟨x4.1 + 1, by omega⟩) (fun _ hs => hs.le (⟨by exact Ent.refl _, Ent.of_eq (congrArg (AV.osl 1 1 0) (ls x4.1).symm), by exact inc_ent (by omega), trivial⟩) (⟨by exact ObEnt.refl _, obl_app (hE x4.1) rfl, trivial⟩)) (by (dsimp only; omega))
  · have g5 := cnd_dec_f h5
    exact k_out (Ent.of_eq (by rw [show x4.1 = n by omega]; rfl))

theorem renc_c : ∀ x : It, x.enc.length ≤ 1099511627776 → Pure Tryz.prog gl0 124 [x.av] (il .u8 x.enc)
  | .int n, _ => renc_int n
  | .byt n f, h => renc_byt n f (by rw [byt_len] at h; omega)
  | .li n c, h => renc_lw n c (fun i => (c i).enc) (It.encP n c) (by have := It.encP_len n c n; rw [It.enc_li] at h; omega) (It.encP_zero n c) (It.encP_succ n c) (fun k hk => Nat.le_trans (It.encP_le n c hk) h)
      (fun i hi => renc_c (c i) (by have := It.enc_child (c := c) hi; omega))

def ow3 : FuncId → Option (List Bool) := fun f => bif Nat.beq f 215 || Nat.beq f 192 then some [false] else bif Nat.beq f 242 then some [true, false, false] else bif Nat.beq f 200 then some [true, false] else none

theorem number_g (n : Nat) (f : Nat → Nat → Int) (v : Int) (h0 : 0 ≤ v) (hv : v < 18446744073709551616) (size : Nat) (h1 : 1 ≤ size) (h8 : size ≤ 8) (hl : n ≤ 1099511627776) :
    Gives Tryz.prog gl0 242 [⟨1, n, true, .fn fun i j => .int .u8 (f i j)⟩] [.osl 0 1 0 n, .int .u64 v, .int .i64 size] (.osl 1 1 0 (n + size)) [none, some ⟨1, n + size, true, .fn fun i j => .int .u8 (bif Nat.blt i n then f i j else numB v size (i - n))⟩] := by
  refine gives_sk (own := ow0) (hand := true) Tryz.func242 (by kernel_rfl) mixed (by kernel_rfl)
    (.loop ({ x : Nat // x ≤ size }) (fun (x : { x : Nat // x ≤ size }) => mkSt [1, 0, 7] [Zu v, AV.osl 1 1 0 (n + x.1), Zi ((↑size : Int) - 1 - (↑(x.1) : Int))] [none, some ⟨1, n + x.1, true, Rep.fn fun (i j : Nat) => Zb (bif Nat.blt i n then f i j else numB v size (i - n))⟩]) (fun (x : { x : Nat // x ≤ size }) => size - x.1) (⟨0, Nat.zero_le size⟩) ([1, 0, 7]) ([33, 0]) ([Zu v, AV.osl 1 1 0 n, Zi (IntKind.wrap IntKind.i64 ((↑size : Int) - 1))]) ([none, some ⟨1, n, true, Rep.fn fun (i j : Nat) => Zb (f i j)⟩]) (fun x0 => (.br (decide ((↑size : Int) - 1 - (↑x0.1 : Int) ≥ 0)) (.req ((0 : Int) ≤ IntKind.wrap IntKind.i64 ((8 : Int) * ((↑size : Int) - 1 - (↑x0.1 : Int)))) (.req ((n + x0.1 + 1) * 1 ≤ 140737488355328) (.again (Again 1 (fun (x : { x : Nat // x ≤ size }) => mkSt [1, 0, 7] [Zu v, AV.osl 1 1 0 (n + x.1), Zi ((↑size : Int) - 1 - (↑(x.1) : Int))] [none, some ⟨1, n + x.1, true, Rep.fn fun (i j : Nat) => Zb (bif Nat.blt i n then f i j else numB v size (i - n))⟩]) (fun (x : { x : Nat // x ≤ size }) => size - x.1) x0) ([1, 0, 7]) ([114, 74]) ([Zu v, AV.osl 1 1 0 (n + x0.1 + 1), Zi (IntKind.wrap IntKind.i64 ((↑size : Int) - 1 - (↑x0.1 : Int) - 1))]) ([none, some ⟨1, n + x0.1 + 1, true, Rep.fn fun (i j : Nat) => Zb (bif Nat.blt i (n + x0.1) then bif Nat.blt i n then f i j else numB v size (i - n) else intOfAV (atL [Zb (IntKind.wrap IntKind.u8 (Int.fdiv v ((2 : Int) ^ min (Int.toNat (IntKind.wrap IntKind.i64 ((8 : Int) * ((↑size : Int) - 1 - (↑x0.1 : Int))))) 64)))] j))⟩])))) (.out (AV.osl 1 1 0 (n + x0.1)) ([none, some ⟨1, n + x0.1, true, Rep.fn fun (i j : Nat) => Zb (bif Nat.blt i n then f i j else numB v size (i - n))⟩]) (AV.osl 1 1 0 (n + size)) ([none, some ⟨1, n + size, true, Rep.fn fun (i j : Nat) => Zb (bif Nat.blt i n then f i j else numB v size (i - n))⟩])))))
    (by kernel_rfl) ?_
  refine k_loop (fun _ hs => hs.le (⟨by exact Ent.refl _, by exact Ent.refl _, Ent.of_eq (congrArg _ (by rw [wI (by omega) (by omega)]; dsimp only; omega)), trivial⟩) (⟨numb_ob rfl, trivial⟩)) (fun x0 => ?_)
  try (have q0 := x0.2; dsimp only at q0)
  refine k_br (fun h1 => ?_) (fun h1 => ?_)
  · have g1 := cnd_dec_t h1
    refine k_req (by rw [wI (by omega) (by omega)]; omega) ?_
    refine k_req (by omega) ?_
    exact k_again (⟨x0.1 + 1, by omega⟩) (fun _ hs => hs.le (⟨by exact Ent.refl _, by exact Ent.refl _, Ent.of_eq (congrArg _ (by rw [wI (by omega) (by omega)]; dsimp only; omega)), trivial⟩) (⟨numb_obs (shr_num (by omega) h8), trivial⟩)) (by (dsimp only; omega))
  · have g1 := cnd_dec_f h1
    exact k_outg (Ent.of_eq (congrArg (AV.osl 1 1 0) (by omega))) (by repeat' (first | exact trivial | (first | exact ObEnt.refl _ | exact ObEnt.junk | exact ObEnt.zero | exact ObEnt.push rfl rfl | exact ObEnt.pushRow rfl | exact ObEnt.len (by omega) | exact ObEnt.row (by repeat' (first | exact trivial | (first | exact Ent.refl _ | exact inc_ent (by omega) | exact Ent.nil rfl | exact Ent.of_eq (congrArg (AV.osl _ _ _) (by first | omega | (dsimp only; omega))) | exact Ent.of_eq (congrArg (AV.int _) (by first | omega | (dsimp only; omega)))) | refine And.intro ?_ ?_))) | refine And.intro ?_ ?_))

theorem number_h (b : Int) (v : Int) (h0 : 0 ≤ v) (hv : v < 18446744073709551616) (size : Nat) (h1 : 1 ≤ size) (h8 : size ≤ 8) :
    Gives Tryz.prog gl0 242 [⟨1, 1, true, .lst [[.int .u8 b]]⟩] [.osl 0 1 0 1, .int .u64 v, .int .i64 size] (.osl 1 1 0 (1 + size)) [none, some ⟨1, 1 + size, true, .fn fun i _ => .int .u8 (bif Nat.blt i 1 then b else numB v size (i - 1))⟩] := by
  refine gives_sk (own := ow0) (hand := true) Tryz.func242 (by kernel_rfl) mixed (by kernel_rfl)
    (.loop ({ x : Nat // x ≤ size }) (fun (x : { x : Nat // x ≤ size }) => mkSt [1, 0, 7] [Zu v, AV.osl 1 1 0 (1 + x.1), Zi ((↑size : Int) - 1 - (↑(x.1) : Int))] [none, some ⟨1, 1 + x.1, true, Rep.fn fun (i x : Nat) => Zb (bif Nat.blt i 1 then b else numB v size (i - 1))⟩]) (fun (x : { x : Nat // x ≤ size }) => size - x.1) (⟨0, Nat.zero_le size⟩) ([1, 0, 7]) ([33, 0]) ([Zu v, AV.osl 1 1 0 1, Zi (IntKind.wrap IntKind.i64 ((↑size : Int) - 1))]) ([none, some ⟨1, 1, true, Rep.lst [[Zb b]]⟩]) (fun x0 => (.br (decide ((↑size : Int) - 1 - (↑x0.1 : Int) ≥ 0)) (.req ((0 : Int) ≤ IntKind.wrap IntKind.i64 ((8 : Int) * ((↑size : Int) - 1 - (↑x0.1 : Int)))) (.req ((1 + x0.1 + 1) * 1 ≤ 140737488355328) (.again (Again 1 (fun (x : { x : Nat // x ≤ size }) => mkSt [1, 0, 7] [Zu v, AV.osl 1 1 0 (1 + x.1), Zi ((↑size : Int) - 1 - (↑(x.1) : Int))] [none, some ⟨1, 1 + x.1, true, Rep.fn fun (i x : Nat) => Zb (bif Nat.blt i 1 then b else numB v size (i - 1))⟩]) (fun (x : { x : Nat // x ≤ size }) => size - x.1) x0) ([1, 0, 7]) ([114, 74]) ([Zu v, AV.osl 1 1 0 (1 + x0.1 + 1), Zi (IntKind.wrap IntKind.i64 ((↑size : Int) - 1 - (↑x0.1 : Int) - 1))]) ([none, some ⟨1, 1 + x0.1 + 1, true, Rep.fn fun (i j : Nat) => Zb (bif Nat.blt i (1 + x0.1) then bif Nat.blt i 1 then b else numB v size (i - 1) else intOfAV (atL [Zb (IntKind.wrap IntKind.u8 (Int.fdiv v ((2 : Int) ^ min (Int.toNat (IntKind.wrap IntKind.i64 ((8 : Int) * ((↑size : Int) - 1 - (↑x0.1 : Int))))) 64)))] j))⟩])))) (.out (AV.osl 1 1 0 (1 + x0.1)) ([none, some ⟨1, 1 + x0.1, true, Rep.fn fun (i j : Nat) => Zb (bif Nat.blt i 1 then b else numB v size (i - 1))⟩]) (AV.osl 1 1 0 (1 + size)) ([none, some ⟨1, 1 + size, true, Rep.fn fun (i x : Nat) => Zb (bif Nat.blt i 1 then b else numB v size (i - 1))⟩])))))
    (by kernel_rfl) ?_
  refine k_loop (fun _ hs => hs.le (⟨by exact Ent.refl _, by exact Ent.refl _, Ent.of_eq (congrArg _ (by rw [wI (by omega) (by omega)]; dsimp only; omega)), trivial⟩) (⟨numb_ob1 rfl, trivial⟩)) (fun x0 => ?_)
  try (have q0 := x0.2; dsimp only at q0)
  refine k_br (fun h1 => ?_) (fun h1 => ?_)
  · have g1 := cnd_dec_t h1
    refine k_req (by rw [wI (by omega) (by omega)]; omega) ?_
    refine k_req (by omega) ?_
    exact k_again (⟨x0.1 + 1, by omega⟩) (fun _ hs => hs.le (⟨by exact Ent.refl _, by exact Ent.refl _, Ent.of_eq (congrArg _ (by rw [wI (by omega) (by omega)]; dsimp only; omega)), trivial⟩) (⟨numb_obs (f := fun _ _ => b) (shr_num (by omega) h8), trivial⟩)) (by (dsimp only; omega))
  · have g1 := cnd_dec_f h1
    exact k_outg (Ent.of_eq (congrArg (AV.osl 1 1 0) (by omega))) (by repeat' (first | exact trivial | (first | exact ObEnt.refl _ | exact ObEnt.junk | exact ObEnt.zero | exact ObEnt.push rfl rfl | exact ObEnt.pushRow rfl | exact ObEnt.len (by omega) | exact ObEnt.row (by repeat' (first | exact trivial | (first | exact Ent.refl _ | exact inc_ent (by omega) | exact Ent.nil rfl | exact Ent.of_eq (congrArg (AV.osl _ _ _) (by first | omega | (dsimp only; omega))) | exact Ent.of_eq (congrArg (AV.int _) (by first | omega | (dsimp only; omega)))) | refine And.intro ?_ ?_))) | refine And.intro ?_ ?_))

theorem write_int (l : List Int) (n : Int) (hl : l.length ≤ 16384) : Gives Tryz.prog gl0 200 [⟨1, l.length, true, .fn (ilF .u8 l)⟩] [.osl 0 1 0 l.length, .agg [.int .i64 1, .int .i64 n, bys 0 (fun _ => 0), .isl 4 0 (fun _ _ => .junk)]]
    (.osl 1 1 0 (l ++ (It.int n).enc).length) [none, ilO .u8 (l ++ (It.int n).enc)] := by
  have hw := wu64_by n
  refine gives_sk (own := ow3) (hand := true) Tryz.func200 (by kernel_rfl) mixed (by kernel_rfl)
    (let y0 : List (Option Ob) := [none, some ⟨1, List.length l + 1 + 8, true, Rep.fn fun (i j : Nat) => Zb (bif Nat.blt i (List.length l + 1) then bif Nat.blt i (List.length l) then List.getD l i (0 : Int) else intOfAV (atL [Zb (IntKind.wrap IntKind.u8 (1 : Int))] j) else numB (IntKind.wrap IntKind.u64 n) 8 (i - (List.length l + 1)))⟩]; let y1 : AV := (AV.osl 1 1 0 (List.length (l ++ It.enc (It.int n)))); let y2 : AV := (AV.osl 1 1 0 (List.length l + 1 + 8)); (.br (decide ((↑(List.length l) : Int) > 16384)) (.out (AV.osl 0 1 0 (List.length l)) ([some ⟨1, List.length l, true, Rep.fn fun (i j : Nat) => Zb (List.getD l i (0 : Int))⟩]) y1 ([none, ilO IntKind.u8 (l ++ It.enc (It.int n))])) (.req ((List.length l + 1) * 1 ≤ 140737488355328) (.tt (.gc 242 ([⟨1, List.length l + 1, true, Rep.fn fun (i j : Nat) => Zb (bif Nat.blt i (List.length l) then List.getD l i (0 : Int) else intOfAV (atL [Zb (IntKind.wrap IntKind.u8 (1 : Int))] j))⟩]) ([AV.osl 0 1 0 (List.length l + 1), Zu (IntKind.wrap IntKind.u64 n), Zi 8]) y2 (y0) (.out y2 (y0) y1 ([none, ilO IntKind.u8 (l ++ It.enc (It.int n))])))))))
    (by kernel_rfl) ?_
  refine k_br (fun h0 => ?_) (fun h0 => ?_)
  · have g0 := cnd_dec_t h0
    exact k_outg ((by exfalso; omega)) ((by exfalso; omega))
  · have g0 := cnd_dec_f h0
    refine k_req (by omega) ?_
    refine k_tt ?_
    refine k_gc (number_g (List.length l + 1) (fun (i j : Nat) => bif Nat.blt i (List.length l) then List.getD l i (0 : Int) else intOfAV (atL [Zb (IntKind.wrap IntKind.u8 (1 : Int))] j)) (IntKind.wrap IntKind.u64 n) (by omega) (by omega) (8) (by omega) (by omega) (by omega)) ?_
    exact k_outg (Ent.of_eq (congrArg (AV.osl 1 1 0) (wr_int l n))) (⟨obl_eq (wr_int l n) (fun i hi => wr1 hi), trivial⟩)

theorem write_byt (l : List Int) (n : Nat) (f : Nat → Int) (hl : l.length ≤ 16384) (hn : n ≤ 16384) : Gives Tryz.prog gl0 200 [⟨1, l.length, true, .fn (ilF .u8 l)⟩] [.osl 0 1 0 l.length, .agg [.int .i64 2, .int .i64 0, bys n f, .isl 4 0 (fun _ _ => .junk)]]
    (.osl 1 1 0 (l ++ (It.byt n f).enc).length) [none, ilO .u8 (l ++ (It.byt n f).enc)] := by
  have hw := wu64_by n
  have e : IntKind.wrap .u64 (n : Int) = n := wu64 (by omega) (by omega)
  refine gives_sk (own := ow3) (hand := true) Tryz.func200 (by kernel_rfl) mixed (by kernel_rfl)
    (let y0 : List AV := [Zb (IntKind.wrap IntKind.u8 (2 : Int))]; let y1 : AV := (AV.osl 1 1 0 (List.length (l ++ It.enc (It.byt n f)))); (.br (decide ((↑(List.length l) : Int) > 16384)) (.out (AV.osl 0 1 0 (List.length l)) ([some ⟨1, List.length l, true, Rep.fn fun (i j : Nat) => Zb (List.getD l i (0 : Int))⟩]) y1 ([none, ilO IntKind.u8 (l ++ It.enc (It.byt n f))])) (.req ((List.length l + 1) * 1 ≤ 140737488355328) (.ff (.tt (.gc 242 ([⟨1, List.length l + 1, true, Rep.fn fun (i j : Nat) => Zb (bif Nat.blt i (List.length l) then List.getD l i (0 : Int) else intOfAV (atL y0 j))⟩]) ([AV.osl 0 1 0 (List.length l + 1), Zu (IntKind.wrap IntKind.u64 (↑n : Int)), Zi 4]) (AV.osl 1 1 0 (List.length l + 1 + 4)) ([none, some ⟨1, List.length l + 1 + 4, true, Rep.fn fun (i j : Nat) => Zb (bif Nat.blt i (List.length l + 1) then bif Nat.blt i (List.length l) then List.getD l i (0 : Int) else intOfAV (atL y0 j) else numB (IntKind.wrap IntKind.u64 (↑n : Int)) 4 (i - (List.length l + 1)))⟩]) (.req ((List.length l + 1 + 4 + n) * 1 ≤ 140737488355328) (.out (AV.osl 1 1 0 (List.length l + 1 + 4 + n)) ([none, some ⟨1, List.length l + 1 + 4 + n, true, Rep.fn fun (i j : Nat) => Zb (bif Nat.blt i (List.length l + 1 + 4) then bif Nat.blt i (List.length l + 1) then bif Nat.blt i (List.length l) then List.getD l i (0 : Int) else intOfAV (atL y0 j) else numB (IntKind.wrap IntKind.u64 (↑n : Int)) 4 (i - (List.length l + 1)) else f (i - (List.length l + 1 + 4)))⟩]) y1 ([none, ilO IntKind.u8 (l ++ It.enc (It.byt n f))])))))))))
    (by kernel_rfl) ?_
  refine k_br (fun h0 => ?_) (fun h0 => ?_)
  · have g0 := cnd_dec_t h0
    exact k_outg ((by exfalso; omega)) ((by exfalso; omega))
  · have g0 := cnd_dec_f h0
    refine k_req (by omega) ?_
    refine k_ff ?_
    refine k_tt ?_
    refine k_gc (number_g (List.length l + 1) (fun (i j : Nat) => bif Nat.blt i (List.length l) then List.getD l i (0 : Int) else intOfAV (atL [Zb (IntKind.wrap IntKind.u8 (2 : Int))] j)) (IntKind.wrap IntKind.u64 (↑n : Int)) (by omega) (by omega) (4) (by omega) (by omega) (by omega)) ?_
    refine k_req (by omega) ?_
    exact k_outg (Ent.of_eq (congrArg (AV.osl 1 1 0) (wr_byt l n f))) (⟨obl_eq (wr_byt l n f) (fun i hi => by
                                                                                                     rw [e]
                                                                                                     exact wr2 hi), trivial⟩)

theorem write_lw (l : List Int) (n : Nat) (c : Nat → It) (E A : Nat → List Int) (hl : l.length ≤ 16384) (hn : n ≤ 16384) (hA0 : A 0 = l ++ (3 :: nbL n 4)) (hE : ∀ k, A (k + 1) = A k ++ E k) (hA : ∀ k, k ≤ n → (A k).length ≤ 16384)
    (hc : ∀ i, i < n → ∀ l : List Int, l.length ≤ 16384 → (l ++ E i).length ≤ 16384 → Gives Tryz.prog gl0 200 [⟨1, l.length, true, .fn (ilF .u8 l)⟩] [.osl 0 1 0 l.length, (c i).av] (.osl 1 1 0 (l ++ E i).length) [none, ilO .u8 (l ++ E i)]) :
    Gives Tryz.prog gl0 200 [⟨1, l.length, true, .fn (ilF .u8 l)⟩] [.osl 0 1 0 l.length, .agg [.int .i64 3, .int .i64 0, bys 0 (fun _ => 0), It.sl n c]] (.osl 1 1 0 (A n).length) [none, ilO .u8 (A n)] := by
  have hw := wu64_by n
  have e : IntKind.wrap .u64 (n : Int) = n := wu64 (by omega) (by omega)
  have l0 : l.length + 1 + 4 = (A 0).length := by rw [hA0]; simp [nbL_len]
  have ls : ∀ k, (A (k + 1)).length = (A k).length + (E k).length := fun k => by rw [hE, List.length_append]
  refine gives_sk (own := ow3) (hand := true) Tryz.func200 (by kernel_rfl) mixed (by kernel_rfl)
    (let y0 : List (Option Ob) := [none, some ⟨1, List.length l + 1 + 4, true, Rep.fn fun (i j : Nat) => Zb (bif Nat.blt i (List.length l + 1) then bif Nat.blt i (List.length l) then List.getD l i (0 : Int) else intOfAV (atL [Zb (IntKind.wrap IntKind.u8 (3 : Int))] j) else numB (IntKind.wrap IntKind.u64 (↑n : Int)) 4 (i - (List.length l + 1)))⟩]; (.br (decide ((↑(List.length l) : Int) > 16384)) (.out (AV.osl 0 1 0 (List.length l)) ([some ⟨1, List.length l, true, Rep.fn fun (i j : Nat) => Zb (List.getD l i (0 : Int))⟩]) (AV.osl 1 1 0 (List.length (A n))) ([none, ilO IntKind.u8 (A n)])) (.req ((List.length l + 1) * 1 ≤ 140737488355328) (.ff (.ff (.gc 242 ([⟨1, List.length l + 1, true, Rep.fn fun (i j : Nat) => Zb (bif Nat.blt i (List.length l) then List.getD l i (0 : Int) else intOfAV (atL [Zb (IntKind.wrap IntKind.u8 (3 : Int))] j))⟩]) ([AV.osl 0 1 0 (List.length l + 1), Zu (IntKind.wrap IntKind.u64 (↑n : Int)), Zi 4]) (AV.osl 1 1 0 (List.length l + 1 + 4)) (y0) (.loop ({ x : Nat // x ≤ n }) (fun (x : { x : Nat // x ≤ n }) => mkSt [44, 45, 0, 46] [AV.isl 4 n fun (i j : Nat) => atL (It.cells (c i)) j, Zi (↑n : Int), AV.osl 1 1 0 (List.length (A (x.1))), Zi (↑(x.1) : Int)] [none, ilO IntKind.u8 (A (x.1))]) (fun (x : { x : Nat // x ≤ n }) => n - x.1) (⟨0, Nat.zero_le n⟩) ([44, 45, 0, 46]) ([233, 185]) ([AV.isl 4 n fun (i j : Nat) => atL (It.cells (c i)) j, Zi (↑n : Int), AV.osl 1 1 0 (List.length l + 1 + 4), Zi 0]) (y0) (fun x6 => (.br (decide ((↑x6.1 : Int) < (↑n : Int))) (.req ((0 : Int) ≤ (↑x6.1 : Int) ∧ (↑x6.1 : Int) < (↑n : Int)) (.gc 200 ([⟨1, List.length (A (x6.1)), true, Rep.fn fun (i j : Nat) => Zb (List.getD (A (x6.1)) i (0 : Int))⟩]) ([AV.osl 0 1 0 (List.length (A (x6.1))), AV.agg [Zi (It.kind (c (Int.toNat (↑x6.1 : Int)))), Zi (It.num (c (Int.toNat (↑x6.1 : Int)))), AV.isl 1 (It.nb (c (Int.toNat (↑x6.1 : Int)))) fun (i x : Nat) => Zb (It.fb (c (Int.toNat (↑x6.1 : Int))) i), AV.isl 4 (It.nl (c (Int.toNat (↑x6.1 : Int)))) (It.row (c (Int.toNat (↑x6.1 : Int))))]]) (AV.osl 1 1 0 (List.length (A (x6.1) ++ E (Int.toNat (↑x6.1 : Int))))) ([none, ilO IntKind.u8 (A (x6.1) ++ E (Int.toNat (↑x6.1 : Int)))]) (.again (Again 1 (fun (x : { x : Nat // x ≤ n }) => mkSt [44, 45, 0, 46] [AV.isl 4 n fun (i j : Nat) => atL (It.cells (c i)) j, Zi (↑n : Int), AV.osl 1 1 0 (List.length (A (x.1))), Zi (↑(x.1) : Int)] [none, ilO IntKind.u8 (A (x.1))]) (fun (x : { x : Nat // x ≤ n }) => n - x.1) x6) ([44, 45, 0, 46]) ([90, 58]) ([AV.isl 4 n fun (i j : Nat) => atL (It.cells (c i)) j, Zi (↑n : Int), AV.osl 1 1 0 (List.length (A (x6.1) ++ E (Int.toNat (↑x6.1 : Int)))), Zi (IntKind.wrap IntKind.i64 ((↑x6.1 : Int) + 1))]) ([none, some ⟨1, List.length (A (x6.1) ++ E (Int.toNat (↑x6.1 : Int))), true, Rep.fn fun (i j : Nat) => Zb (List.getD (A (x6.1) ++ E (Int.toNat (↑x6.1 : Int))) i (0 : Int))⟩])))) (.out (AV.osl 1 1 0 (List.length (A (x6.1)))) ([none, some ⟨1, List.length (A (x6.1)), true, Rep.fn fun (i j : Nat) => Zb (List.getD (A (x6.1)) i (0 : Int))⟩]) (AV.osl 1 1 0 (List.length (A n))) ([none, ilO IntKind.u8 (A n)])))))))))))
    (by kernel_rfl) ?_
  refine k_br (fun h0 => ?_) (fun h0 => ?_)
  · have g0 := cnd_dec_t h0
    exact k_outg ((by exfalso; omega)) ((by exfalso; omega))
  · have g0 := cnd_dec_f h0
    refine k_req (by omega) ?_
    refine k_ff ?_
    refine k_ff ?_
    refine k_gc (number_g (List.length l + 1) (fun (i j : Nat) => bif Nat.blt i (List.length l) then List.getD l i (0 : Int) else intOfAV (atL [Zb (IntKind.wrap IntKind.u8 (3 : Int))] j)) (IntKind.wrap IntKind.u64 (↑n : Int)) (by omega) (by omega) (4) (by omega) (by omega) (by omega)) ?_
    refine k_loop (fun _ hs => hs.le (by repeat' (first | exact trivial | (first | exact Ent.refl _ | exact inc_ent (by omega) | exact Ent.nil rfl | exact Ent.of_eq (congrArg (AV.osl _ _ _) (by omega)) | exact Ent.of_eq (congrArg (AV.int _) (by omega))) | refine And.intro ?_ ?_)) (⟨obl_eq l0 (fun i hi => by
                                                                                                     rw [e, hA0]
                                                                                                     exact wr1 (size := 4) hi), trivial⟩)) (fun x6 => ?_)
    refine k_br (fun h7 => ?_) (fun h7 => ?_)
    · have g7 := cnd_dec_t h7
      refine k_req (by omega) ?_
      refine k_gc (hc (Int.toNat (↑x6.1 : Int)) (by omega) (A (x6.1)) (by exact hA _ (by omega)) (by (have q := hA (x6.1 + 1) (by omega); rw [hE] at q; exact q))) ?_
      exact k_again (⟨x6.1 + 1, by omega⟩) (fun _ hs => hs.le (⟨by exact Ent.refl _, by exact Ent.refl _, Ent.of_eq (congrArg (fun z => AV.osl 1 1 0 (List.length z)) (hE x6.1).symm), by exact inc_ent (by omega), trivial⟩) (⟨obl_cg (hE x6.1), trivial⟩)) (by (dsimp only; omega))
    · have g7 := cnd_dec_f h7
      exact k_outg (Ent.of_eq (congrArg (fun z => AV.osl 1 1 0 (A z).length) (by omega))) (⟨obl_cg (congrArg A (by omega)), trivial⟩)

theorem write_int0 (n : Int) : Gives Tryz.prog gl0 200 [] [.nsl, .agg [.int .i64 1, .int .i64 n, bys 0 (fun _ => 0), .isl 4 0 (fun _ _ => .junk)]] (.osl 0 1 0 (It.int n).enc.length) [ilO .u8 (It.int n).enc] := by
  have hw := wu64_by n
  refine gives_sk (own := ow3) (hand := true) Tryz.func200 (by kernel_rfl) mixed (by kernel_rfl)
    (.ff (.req (1 ≤ 140737488355328) (.tt (.gc 242 ([⟨1, 1, true, Rep.lst [[Zb (IntKind.wrap IntKind.u8 (1 : Int))]]⟩]) ([AV.osl 0 1 0 1, Zu (IntKind.wrap IntKind.u64 n), Zi 8]) (AV.osl 1 1 0 (1 + 8)) ([none, some ⟨1, 1 + 8, true, Rep.fn fun (i x : Nat) => Zb (bif Nat.blt i 1 then IntKind.wrap IntKind.u8 (1 : Int) else numB (IntKind.wrap IntKind.u64 n) 8 (i - 1))⟩]) (.out (AV.osl 0 1 0 9) ([some ⟨1, 9, true, Rep.fn fun (i j : Nat) => Zb (bif Nat.blt i 1 then IntKind.wrap IntKind.u8 (1 : Int) else numB (IntKind.wrap IntKind.u64 n) 8 (i - 1))⟩]) (AV.osl 0 1 0 (List.length (It.enc (It.int n)))) ([ilO IntKind.u8 (It.enc (It.int n))]))))))
    (by kernel_rfl) ?_
  refine k_ff ?_
  refine k_req (by omega) ?_
  refine k_tt ?_
  refine k_gc (number_h (IntKind.wrap IntKind.u8 (1 : Int)) (IntKind.wrap IntKind.u64 n) (by omega) (by omega) (8) (by omega) (by omega)) ?_
  exact k_outg (Ent.of_eq (congrArg (AV.osl 0 1 0) (int_len n).symm)) (⟨obl_eq (int_len n).symm (fun i hi => enc1 (size := 8) hi), trivial⟩)

theorem write_byt0 (n : Nat) (f : Nat → Int) (hn : n ≤ 16384) : Gives Tryz.prog gl0 200 [] [.nsl, .agg [.int .i64 2, .int .i64 0, bys n f, .isl 4 0 (fun _ _ => .junk)]] (.osl 0 1 0 (It.byt n f).enc.length) [ilO .u8 (It.byt n f).enc] := by
  have hw := wu64_by n
  have e : IntKind.wrap .u64 (n : Int) = n := wu64 (by omega) (by omega)
  refine gives_sk (own := ow3) (hand := true) Tryz.func200 (by kernel_rfl) mixed (by kernel_rfl)
    (.ff (.req (1 ≤ 140737488355328) (.ff (.tt (.gc 242 ([⟨1, 1, true, Rep.lst [[Zb (IntKind.wrap IntKind.u8 (2 : Int))]]⟩]) ([AV.osl 0 1 0 1, Zu (IntKind.wrap IntKind.u64 (↑n : Int)), Zi 4]) (AV.osl 1 1 0 (1 + 4)) ([none, some ⟨1, 1 + 4, true, Rep.fn fun (i x : Nat) => Zb (bif Nat.blt i 1 then IntKind.wrap IntKind.u8 (2 : Int) else numB (IntKind.wrap IntKind.u64 (↑n : Int)) 4 (i - 1))⟩]) (.req ((5 + n) * 1 ≤ 140737488355328) (.out (AV.osl 0 1 0 (5 + n)) ([some ⟨1, 5 + n, true, Rep.fn fun (i j : Nat) => Zb (bif Nat.blt i 5 then bif Nat.blt i 1 then IntKind.wrap IntKind.u8 (2 : Int) else numB (IntKind.wrap IntKind.u64 (↑n : Int)) 4 (i - 1) else f (i - 5))⟩]) (AV.osl 0 1 0 (List.length (It.enc (It.byt n f)))) ([ilO IntKind.u8 (It.enc (It.byt n f))]))))))))
    (by kernel_rfl) ?_
  refine k_ff ?_
  refine k_req (by omega) ?_
  refine k_ff ?_
  refine k_tt ?_
  refine k_gc (number_h (IntKind.wrap IntKind.u8 (2 : Int)) (IntKind.wrap IntKind.u64 (↑n : Int)) (by omega) (by omega) (4) (by omega) (by omega)) ?_
  refine k_req (by omega) ?_
  exact k_outg (Ent.of_eq (congrArg (AV.osl 0 1 0) (byt_len n f).symm)) (⟨obl_eq (byt_len n f).symm (fun i hi => by
                                                                                                     rw [e]
                                                                                                     exact enc2 hi), trivial⟩)

theorem write_lw0 (n : Nat) (c : Nat → It) (E A : Nat → List Int) (hn : n ≤ 16384) (hA0 : A 0 = 3 :: nbL n 4) (hE : ∀ k, A (k + 1) = A k ++ E k) (hA : ∀ k, k ≤ n → (A k).length ≤ 16384)
    (hc : ∀ i, i < n → ∀ l : List Int, l.length ≤ 16384 → (l ++ E i).length ≤ 16384 → Gives Tryz.prog gl0 200 [⟨1, l.length, true, .fn (ilF .u8 l)⟩] [.osl 0 1 0 l.length, (c i).av] (.osl 1 1 0 (l ++ E i).length) [none, ilO .u8 (l ++ E i)]) :
    Gives Tryz.prog gl0 200 [] [.nsl, .agg [.int .i64 3, .int .i64 0, bys 0 (fun _ => 0), It.sl n c]] (.osl 0 1 0 (A n).length) [ilO .u8 (A n)] := by
  have hw := wu64_by n
  have e : IntKind.wrap .u64 (n : Int) = n := wu64 (by omega) (by omega)
  have l0 : 1 + 4 = (A 0).length := by rw [hA0]; simp [nbL_len]
  have ls : ∀ k, (A (k + 1)).length = (A k).length + (E k).length := fun k => by rw [hE, List.length_append]
  refine gives_sk (own := ow3) (hand := true) Tryz.func200 (by kernel_rfl) mixed (by kernel_rfl)
    (.ff (.req (1 ≤ 140737488355328) (.ff (.ff (.gc 242 ([⟨1, 1, true, Rep.lst [[Zb (IntKind.wrap IntKind.u8 (3 : Int))]]⟩]) ([AV.osl 0 1 0 1, Zu (IntKind.wrap IntKind.u64 (↑n : Int)), Zi 4]) (AV.osl 1 1 0 (1 + 4)) ([none, some ⟨1, 1 + 4, true, Rep.fn fun (i x : Nat) => Zb (bif Nat.blt i 1 then IntKind.wrap IntKind.u8 (3 : Int) else numB (IntKind.wrap IntKind.u64 (↑n : Int)) 4 (i - 1))⟩]) (.loop ({ x : Nat // x ≤ n }) (fun (x : { x : Nat // x ≤ n }) => mkSt [44, 45, 0, 46] [AV.isl 4 n fun (i j : Nat) => atL (It.cells (c i)) j, Zi (↑n : Int), AV.osl 0 1 0 (List.length (A (x.1))), Zi (↑(x.1) : Int)] [ilO IntKind.u8 (A (x.1))]) (fun (x : { x : Nat // x ≤ n }) => n - x.1) (⟨0, Nat.zero_le n⟩) ([44, 45, 0, 46]) ([184]) ([AV.isl 4 n fun (i j : Nat) => atL (It.cells (c i)) j, Zi (↑n : Int), AV.osl 0 1 0 5, Zi 0]) ([some ⟨1, 5, true, Rep.fn fun (i j : Nat) => Zb (bif Nat.blt i 1 then IntKind.wrap IntKind.u8 (3 : Int) else numB (IntKind.wrap IntKind.u64 (↑n : Int)) 4 (i - 1))⟩]) (fun x5 => (.br (decide ((↑x5.1 : Int) < (↑n : Int))) (.req ((0 : Int) ≤ (↑x5.1 : Int) ∧ (↑x5.1 : Int) < (↑n : Int)) (.gc 200 ([⟨1, List.length (A (x5.1)), true, Rep.fn fun (i j : Nat) => Zb (List.getD (A (x5.1)) i (0 : Int))⟩]) ([AV.osl 0 1 0 (List.length (A (x5.1))), AV.agg [Zi (It.kind (c (Int.toNat (↑x5.1 : Int)))), Zi (It.num (c (Int.toNat (↑x5.1 : Int)))), AV.isl 1 (It.nb (c (Int.toNat (↑x5.1 : Int)))) fun (i x : Nat) => Zb (It.fb (c (Int.toNat (↑x5.1 : Int))) i), AV.isl 4 (It.nl (c (Int.toNat (↑x5.1 : Int)))) (It.row (c (Int.toNat (↑x5.1 : Int))))]]) (AV.osl 1 1 0 (List.length (A (x5.1) ++ E (Int.toNat (↑x5.1 : Int))))) ([none, ilO IntKind.u8 (A (x5.1) ++ E (Int.toNat (↑x5.1 : Int)))]) (.again (Again 0 (fun (x : { x : Nat // x ≤ n }) => mkSt [44, 45, 0, 46] [AV.isl 4 n fun (i j : Nat) => atL (It.cells (c i)) j, Zi (↑n : Int), AV.osl 0 1 0 (List.length (A (x.1))), Zi (↑(x.1) : Int)] [ilO IntKind.u8 (A (x.1))]) (fun (x : { x : Nat // x ≤ n }) => n - x.1) x5) ([44, 45, 0, 46]) ([57]) ([AV.isl 4 n fun (i j : Nat) => atL (It.cells (c i)) j, Zi (↑n : Int), AV.osl 0 1 0 (List.length (A (x5.1) ++ E (Int.toNat (↑x5.1 : Int)))), Zi (IntKind.wrap IntKind.i64 ((↑x5.1 : Int) + 1))]) ([some ⟨1, List.length (A (x5.1) ++ E (Int.toNat (↑x5.1 : Int))), true, Rep.fn fun (i j : Nat) => Zb (List.getD (A (x5.1) ++ E (Int.toNat (↑x5.1 : Int))) i (0 : Int))⟩])))) (.out (AV.osl 0 1 0 (List.length (A (x5.1)))) ([some ⟨1, List.length (A (x5.1)), true, Rep.fn fun (i j : Nat) => Zb (List.getD (A (x5.1)) i (0 : Int))⟩]) (AV.osl 0 1 0 (List.length (A n))) ([ilO IntKind.u8 (A n)]))))))))))
    (by kernel_rfl) ?_
  refine k_ff ?_
  refine k_req (by omega) ?_
  refine k_ff ?_
  refine k_ff ?_
  refine k_gc (number_h (IntKind.wrap IntKind.u8 (3 : Int)) (IntKind.wrap IntKind.u64 (↑n : Int)) (by omega) (by omega) (4) (by omega) (by omega)) ?_
  refine k_loop (fun _ hs => hs.le (by repeat' (first | exact trivial | (first | exact Ent.refl _ | exact inc_ent (by omega) | exact Ent.nil rfl | exact Ent.of_eq (congrArg (AV.osl _ _ _) (by omega)) | exact Ent.of_eq (congrArg (AV.int _) (by omega))) | refine And.intro ?_ ?_)) (⟨obl_eq l0 (fun i hi => by
                                                                                                     rw [e, hA0]
                                                                                                     exact enc1 (size := 4) hi), trivial⟩)) (fun x5 => ?_)
  refine k_br (fun h6 => ?_) (fun h6 => ?_)
  · have g6 := cnd_dec_t h6
    refine k_req (by omega) ?_
    refine k_gc (hc (Int.toNat (↑x5.1 : Int)) (by omega) (A (x5.1)) (by exact hA _ (by omega)) (by (have q := hA (x5.1 + 1) (by omega); rw [hE] at q; exact q))) ?_
    exact k_again (⟨x5.1 + 1, by omega⟩) (fun _ hs => hs.le (⟨by exact Ent.refl _, by exact Ent.refl _, Ent.of_eq (congrArg (fun z => AV.osl 0 1 0 (List.length z)) (hE x5.1).symm), by exact inc_ent (by omega), trivial⟩) (⟨obl_cg (hE x5.1), trivial⟩)) (by (dsimp only; omega))
  · have g6 := cnd_dec_f h6
    exact k_outg (Ent.of_eq (congrArg (fun z => AV.osl 0 1 0 (A z).length) (by omega))) (⟨obl_cg (congrArg A (by omega)), trivial⟩)

theorem write_c : ∀ (x : It) (l : List Int), l.length ≤ 16384 → (l ++ x.enc).length ≤ 16384 → Gives Tryz.prog gl0 200 [⟨1, l.length, true, .fn (ilF .u8 l)⟩] [.osl 0 1 0 l.length, x.av] (.osl 1 1 0 (l ++ x.enc).length) [none, ilO .u8 (l ++ x.enc)]
  | .int n, l, h, _ => write_int l n h
  | .byt n f, l, h, h' => write_byt l n f h (by rw [← wr_byt] at h'; omega)
  | .li n c, l, h, h' => by
    have hA : ∀ k, k ≤ n → (l ++ It.encP n c k).length ≤ 16384 := fun k hk => by
      have := It.encP_le n c hk
      rw [It.enc_li, List.length_append] at h'
      rw [List.length_append]
      omega
    exact write_lw l n c (fun i => (c i).enc) (fun k => l ++ It.encP n c k) h (by have := It.encP_len n c n; have := hA n (Nat.le_refl _); rw [List.length_append] at this; omega) (by rw [It.encP_zero]) (fun k => by rw [It.encP_succ, List.append_assoc]) hA
      (fun i hi l h h' => write_c (c i) l h h')

theorem write_n : ∀ x : It, x.enc.length ≤ 16384 → Gives Tryz.prog gl0 200 [] [.nsl, x.av] (.osl 0 1 0 x.enc.length) [ilO .u8 x.enc]
  | .int n, _ => write_int0 n
  | .byt n f, h => write_byt0 n f (by rw [byt_len] at h; omega)
  | .li n c, h => write_lw0 n c (fun i => (c i).enc) (It.encP n c) (by have := It.encP_len n c n; rw [It.enc_li] at h; omega) (It.encP_zero n c) (It.encP_succ n c) (fun k hk => Nat.le_trans (It.encP_le n c hk) h)
      (fun i _ l h h' => write_c (c i) l h h')

end Go.Proofs.YtdaaddkipdmajaaGreatDoor

namespace Go.Proofs.YtdaaddkipdmajaaGreatDoor
open Go Go.Am Go.Sp
set_option maxRecDepth 100000

theorem within1_w (x : It) (d : Int) (b : Bool) (hd : 0 < d ∧ d ≤ 8) (h : Pure Tryz.prog gl0 241 [x.av, .int .i64 (d - 1)] (.bool b)) : Pure Tryz.prog gl0 268 [x.av, .ipt 1 (atL [.int .i64 d])] (.bool (!b)) := by
  have hw : IntKind.wrap .i64 (d - 1) = d - 1 := wI (by omega) (by omega)
  rw [← hw] at h
  refine pure_sk (own := ow0) Tryz.func268 (by kernel_rfl) mixed (by kernel_rfl)
    (.sc (true) 241 ([AV.agg [Zi (It.kind x), Zi (It.num x), AV.isl 1 (It.nb x) fun (i x_1 : Nat) => Zb (It.fb x i), AV.isl 4 (It.nl x) (It.row x)], Zi (IntKind.wrap IntKind.i64 (d - 1))]) (AV.bool b) (.out (AV.bool !b) [] (AV.bool !b) []))
    (by kernel_rfl) ?_
  refine k_sc (h) ?_
  exact k_out (Ent.refl _)

theorem indexI_w (n : Nat) (c : Nat → It) (d : Int) (p : Nat → Bool) (hn : n ≤ 1000) (hc : ∀ i, i < n → Pure Tryz.prog gl0 268 [(c i).av, .ipt 1 (atL [.int .i64 d])] (.bool (p i))) :
    Pure Tryz.prog gl0 280 [It.sl n c, .fn (.func 268) [] [.ipt 1 (atL [.int .i64 d])]] (.int .i64 (firstI p n 0)) := by
  refine pure_sk (own := ow0) Tryz.func280 (by kernel_rfl) mixed (by kernel_rfl)
    (let y0 : List AV := [AV.ipt 1 (atL [Zi d])]; (.loop ({ x : Nat // x ≤ n ∧ (fun (i : Nat) => firstI p n 0 = firstI p (n - i) i) x }) (fun (x : { x : Nat // x ≤ n ∧ (fun (i : Nat) => firstI p n 0 = firstI p (n - i) i) x }) => mkSt [0, 1, 7, 8] [AV.isl 4 n fun (i j : Nat) => atL (It.cells (c i)) j, AV.fn (Fn.func (268 : FuncId)) [] y0, Zi (↑n : Int), Zi (↑(x.1) : Int)] []) (fun (x : { x : Nat // x ≤ n ∧ (fun (i : Nat) => firstI p n 0 = firstI p (n - i) i) x }) => n - x.1) (⟨0, ⟨Nat.zero_le n, rfl⟩⟩) ([0, 1, 7, 8]) ([]) ([AV.isl 4 n fun (i j : Nat) => atL (It.cells (c i)) j, AV.fn (Fn.func (268 : FuncId)) [] y0, Zi (↑n : Int), Zi 0]) ([]) (fun x0 => (.br (decide ((↑x0.1 : Int) < (↑n : Int))) (.req ((0 : Int) ≤ (↑x0.1 : Int) ∧ (↑x0.1 : Int) < (↑n : Int)) (.sc (true) 268 ([AV.agg [Zi (It.kind (c (Int.toNat (↑x0.1 : Int)))), Zi (It.num (c (Int.toNat (↑x0.1 : Int)))), AV.isl 1 (It.nb (c (Int.toNat (↑x0.1 : Int)))) fun (i x : Nat) => Zb (It.fb (c (Int.toNat (↑x0.1 : Int))) i), AV.isl 4 (It.nl (c (Int.toNat (↑x0.1 : Int)))) (It.row (c (Int.toNat (↑x0.1 : Int))))], AV.ipt 1 (atL [Zi d])]) (AV.bool (p (Int.toNat (↑x0.1 : Int)))) (.br (p (Int.toNat (↑x0.1 : Int))) (.out (Zi (↑x0.1 : Int)) [] (Zi (firstI p n 0)) []) (.again (Again 0 (fun (x : { x : Nat // x ≤ n ∧ (fun (i : Nat) => firstI p n 0 = firstI p (n - i) i) x }) => mkSt [0, 1, 7, 8] [AV.isl 4 n fun (i j : Nat) => atL (It.cells (c i)) j, AV.fn (Fn.func (268 : FuncId)) [] y0, Zi (↑n : Int), Zi (↑(x.1) : Int)] []) (fun (x : { x : Nat // x ≤ n ∧ (fun (i : Nat) => firstI p n 0 = firstI p (n - i) i) x }) => n - x.1) x0) ([0, 1, 7, 8]) ([]) ([AV.isl 4 n fun (i j : Nat) => atL (It.cells (c i)) j, AV.fn (Fn.func (268 : FuncId)) [] y0, Zi (↑n : Int), Zi (IntKind.wrap IntKind.i64 ((↑x0.1 : Int) + 1))]) ([]))))) (.out (Zi (-1)) [] (Zi (firstI p n 0)) [])))))
    (by kernel_rfl) ?_
  refine k_loop (fun _ hs => hs.le (by repeat' (first | exact trivial | (first | exact Ent.refl _ | exact inc_ent (by omega) | exact Ent.nil rfl | exact Ent.of_eq (congrArg (AV.osl _ _ _) (by first | omega | (dsimp only; omega))) | exact Ent.of_eq (congrArg (AV.int _) (by first | omega | (dsimp only; omega)))) | refine And.intro ?_ ?_)) (trivial)) (fun x0 => ?_)
  try (have q0 := x0.2; dsimp only at q0)
  refine k_br (fun h1 => ?_) (fun h1 => ?_)
  · have g1 := cnd_dec_t h1
    refine k_req (by omega) ?_
    refine k_sc (hc (Int.toNat (↑x0.1 : Int)) (by omega)) ?_
    refine k_br (fun h4 => ?_) (fun h4 => ?_)
    · have g4 := cnd_id_t h4
      try simp only [Int.toNat_natCast] at g4
      exact k_out (Ent.of_eq (congrArg _ (first_hit x0.2.2 (by omega) g4)))
    · have g4 := cnd_id_f h4
      try simp only [Int.toNat_natCast] at g4
      exact k_again (⟨x0.1 + 1, by omega, first_next x0.2.2 (by omega) g4⟩) (fun _ hs => hs.le (by repeat' (first | exact trivial | (first | exact Ent.refl _ | exact inc_ent (by omega) | exact Ent.nil rfl | exact Ent.of_eq (congrArg (AV.osl _ _ _) (by first | omega | (dsimp only; omega))) | exact Ent.of_eq (congrArg (AV.int _) (by first | omega | (dsimp only; omega)))) | refine And.intro ?_ ?_)) (trivial)) (by (dsimp only; omega))
  · have g1 := cnd_dec_f h1
    exact k_out (Ent.of_eq (congrArg _ (first_miss x0.2.2 (by omega))))

theorem containsI_w (n : Nat) (c : Nat → It) (d : Int) (p : Nat → Bool) (hn : n ≤ 1000) (hc : ∀ i, i < n → Pure Tryz.prog gl0 268 [(c i).av, .ipt 1 (atL [.int .i64 d])] (.bool (p i))) :
    Pure Tryz.prog gl0 267 [It.sl n c, .fn (.func 268) [] [.ipt 1 (atL [.int .i64 d])]] (.bool (decide (firstI p n 0 ≥ 0))) := by
  refine pure_sk (own := ow0) Tryz.func267 (by kernel_rfl) mixed (by kernel_rfl)
    (let y0 : AV := (AV.bool (decide (firstI p n 0 ≥ 0))); (.sc (true) 280 ([AV.isl 4 n fun (i j : Nat) => atL (It.cells (c i)) j, AV.fn (Fn.func (268 : FuncId)) [] [AV.ipt 1 (atL [Zi d])]]) (Zi (firstI p n 0)) (.out y0 [] y0 [])))
    (by kernel_rfl) ?_
  refine k_sc ((indexI_w n c d p hn hc)) ?_
  exact k_out (Ent.refl _)

theorem within_int (n d : Int) : Pure Tryz.prog gl0 241 [.agg [.int .i64 1, .int .i64 n, bys 0 (fun _ => 0), .isl 4 0 (fun _ _ => .junk)], .int .i64 d] (.bool true) := by
  refine pure_sk (own := ow0) Tryz.func241 (by kernel_rfl) mixed (by kernel_rfl)
    (.tt (.out (AV.bool true) [] (AV.bool true) []))
    (by kernel_rfl) ?_
  refine k_tt ?_
  exact k_out (Ent.refl _)

theorem within_byt (n : Nat) (f : Nat → Int) (d : Int) : Pure Tryz.prog gl0 241 [.agg [.int .i64 2, .int .i64 0, bys n f, .isl 4 0 (fun _ _ => .junk)], .int .i64 d] (.bool true) := by
  refine pure_sk (own := ow0) Tryz.func241 (by kernel_rfl) mixed (by kernel_rfl)
    (.ff (.tt (.out (AV.bool true) [] (AV.bool true) [])))
    (by kernel_rfl) ?_
  refine k_ff ?_
  refine k_tt ?_
  exact k_out (Ent.refl _)

theorem within_lw (n : Nat) (c : Nat → It) (d : Int) (p : Nat → Bool) (hn : n < 9223372036854775808) (hc : 0 < d → n ≤ 1000 → Pure Tryz.prog gl0 267 [It.sl n c, .fn (.func 268) [] [.ipt 1 (atL [.int .i64 d])]] (.bool (decide (firstI p n 0 ≥ 0)))) :
    Pure Tryz.prog gl0 241 [.agg [.int .i64 3, .int .i64 0, bys 0 (fun _ => 0), It.sl n c], .int .i64 d] (.bool (decide (0 < d) && Nat.ble n 1000 && (List.range n).all (fun i => !p i))) := by
  refine pure_sk (own := ow0) Tryz.func241 (by kernel_rfl) mixed (by kernel_rfl)
    (.ff (.ff (.tt (.sc ((decide (d > 0) && decide ((↑n : Int) ≤ 1000)) == true) 267 ([AV.isl 4 n fun (i j : Nat) => atL (It.cells (c i)) j, AV.fn (Fn.func 268) [] [AV.ipt 1 fun (k : Nat) => atL [Zi d] k]]) (AV.bool (decide (firstI p n 0 ≥ 0))) (.out (AV.bool (decide (d > 0) && decide ((↑n : Int) ≤ 1000) && !decide (firstI p n 0 ≥ 0))) [] (AV.bool (decide ((0 : Int) < d) && Nat.ble n 1000 && List.all (List.range n) fun (i : Nat) => !p i)) [])))))
    (by kernel_rfl) ?_
  refine k_ff ?_
  refine k_ff ?_
  refine k_tt ?_
  refine k_scg (fun h3 => hc (by simp at h3; omega) (by simp at h3; omega)) ?_
  exact k_out (Ent.of_eq (congrArg _ (li_ok d n p)))

theorem within_c : ∀ (x : It) (d : Int), 0 ≤ d ∧ d ≤ 8 → x.enc.length ≤ 1099511627776 → Pure Tryz.prog gl0 241 [x.av, .int .i64 d] (.bool (x.okD d))
  | .int n, d, _, _ => within_int n d
  | .byt n f, d, _, _ => within_byt n f d
  | .li n c, d, hd, hn => by
    have h := within_lw n c d (fun i => !(c i).okD (d - 1)) (by have := It.encP_len n c n; rw [It.enc_li] at hn; omega) (fun h1 h2 => containsI_w n c d _ h2 (fun i hi => within1_w (c i) d _ ⟨h1, hd.2⟩ (within_c (c i) (d - 1) (by omega) (by have := It.enc_child (c := c) hi; omega))))
    simp only [Bool.not_not] at h
    exact h

theorem valid_c (x : It) (h : x.enc.length ≤ 1099511627776) : Pure Tryz.prog gl0 199 [.agg [.int .i64 x.kind, .int .i64 x.num, bys x.nb x.fb, .isl 4 x.nl x.row]] (.bool (x.okD 8)) := by
  have hw := within_c x 8 (by omega) h
  refine pure_sk (own := ow0) Tryz.func199 (by kernel_rfl) mixed (by kernel_rfl)
    (let y0 : AV := (AV.bool (It.okD x (8 : Int))); (.sc (true) 241 ([AV.agg [Zi (It.kind x), Zi (It.num x), AV.isl 1 (It.nb x) fun (i x_1 : Nat) => Zb (It.fb x i), AV.isl 4 (It.nl x) (It.row x)], Zi 8]) y0 (.out y0 [] y0 [])))
    (by kernel_rfl) ?_
  refine k_sc (hw) ?_
  exact k_out (Ent.refl _)

theorem encode_c (x : It) (h : x.okD 8 = true) (hl : x.enc.length ≤ 16384) : Pure Tryz.prog gl0 136 [x.av] (.tup [il .u8 x.enc, .int .i64 0]) := by
  have hv := valid_c x (by omega)
  rw [h] at hv
  have hn := write_n x hl
  refine pure_sk (own := ow3) Tryz.func136 (by kernel_rfl) mixed (by kernel_rfl)
    (let y0 : List AV := [Zi (It.kind x), Zi (It.num x), AV.isl 1 (It.nb x) fun (i x_1 : Nat) => Zb (It.fb x i), AV.isl 4 (It.nl x) (It.row x)]; let y1 : AV := (AV.tup [il IntKind.u8 (It.enc x), Zi 0]); (.sc (true) 199 ([AV.agg y0]) (AV.bool true) (.ff (.gc 200 ([]) ([AV.nsl, AV.agg y0]) (AV.osl 0 1 0 (List.length (It.enc x))) ([ilO IntKind.u8 (It.enc x)]) (.br (decide ((↑(List.length (It.enc x)) : Int) > 16384)) (.out (AV.tup [AV.nsl, Zi 5]) [] y1 []) (.out (AV.tup [AV.isl 1 (List.length (It.enc x)) fun (r k : Nat) => Zb (List.getD (It.enc x) (r + 0) (0 : Int)), Zi 0]) [] y1 []))))))
    (by kernel_rfl) ?_
  refine k_sc (hv) ?_
  refine k_ff ?_
  refine k_gc (hn) ?_
  refine k_br (fun h3 => ?_) (fun h3 => ?_)
  · have g3 := cnd_dec_t h3
    exact k_out ((by exfalso; omega))
  · have g3 := cnd_dec_f h3
    exact k_out (Ent.of_eq (by rfl))

theorem ints_c (l : List Int) (hl : l.length ≤ 1000000) : Pure Tryz.prog gl0 148 [il .i64 l] (intsI l).av := by
  refine pure_sk (own := ow0) Tryz.func148 (by kernel_rfl) mixed (by kernel_rfl)
    (let y0 : List AV := [Zi 0, Zi 0, AV.nsl, AV.nsl]; (.loop ({ x : Nat // x ≤ List.length l }) (fun (x : { x : Nat // x ≤ List.length l }) => mkSt [2, 3, 7, 8, 9] [AV.own 0 4 0 0 4, AV.own 1 4 0 0 4, AV.isl 1 (List.length l) fun (i x : Nat) => Zi (List.getD l i (0 : Int)), Zi (↑(List.length l) : Int), Zi (↑(x.1) : Int)] [some ⟨4, 1, true, Rep.lst [y0]⟩, some ⟨4, 1, true, Rep.lst [[Zi 3, Zi 0, AV.nsl, AV.osl 2 4 0 (x.1)]]⟩, some ⟨4, x.1, true, Rep.row fun (i : Nat) => It.cells (It.int (List.getD l i (0 : Int)))⟩]) (fun (x : { x : Nat // x ≤ List.length l }) => List.length l - x.1) (⟨0, Nat.zero_le (List.length l)⟩) ([2, 3, 7, 8, 9]) ([0, 16, 1082]) ([AV.own 0 4 0 0 4, AV.own 1 4 0 0 4, AV.isl 1 (List.length l) fun (i x : Nat) => Zi (List.getD l i (0 : Int)), Zi (↑(List.length l) : Int), Zi 0]) ([some ⟨4, 1, true, Rep.lst [y0]⟩, some ⟨4, 1, true, Rep.lst [[Zi 3, Zi 0, AV.nsl, AV.nsl]]⟩, some ⟨4, 0, true, Rep.lst []⟩]) (fun x0 => (.br (decide ((↑x0.1 : Int) < (↑(List.length l) : Int))) (.req ((0 : Int) ≤ (↑x0.1 : Int) ∧ (↑x0.1 : Int) < (↑(List.length l) : Int)) (.req ((x0.1 + 1) * 64 ≤ 140737488355328) (.again (Again 0 (fun (x : { x : Nat // x ≤ List.length l }) => mkSt [2, 3, 7, 8, 9] [AV.own 0 4 0 0 4, AV.own 1 4 0 0 4, AV.isl 1 (List.length l) fun (i x : Nat) => Zi (List.getD l i (0 : Int)), Zi (↑(List.length l) : Int), Zi (↑(x.1) : Int)] [some ⟨4, 1, true, Rep.lst [y0]⟩, some ⟨4, 1, true, Rep.lst [[Zi 3, Zi 0, AV.nsl, AV.osl 2 4 0 (x.1)]]⟩, some ⟨4, x.1, true, Rep.row fun (i : Nat) => It.cells (It.int (List.getD l i (0 : Int)))⟩]) (fun (x : { x : Nat // x ≤ List.length l }) => List.length l - x.1) x0) ([2, 3, 7, 8, 9]) ([0, 1, 75]) ([AV.own 0 4 0 0 4, AV.own 1 4 0 0 4, AV.isl 1 (List.length l) fun (i x : Nat) => Zi (List.getD l i (0 : Int)), Zi (↑(List.length l) : Int), Zi (IntKind.wrap IntKind.i64 ((↑x0.1 : Int) + 1))]) ([some ⟨4, 1, true, Rep.lst [y0]⟩, some ⟨4, 1, true, Rep.lst [[Zi 3, Zi 0, AV.nsl, AV.osl 2 4 0 (x0.1 + 1)]]⟩, some ⟨4, x0.1 + 1, true, Rep.cat x0.1 (Rep.row fun (i : Nat) => [Zi (It.kind (It.int (List.getD l i (0 : Int)))), Zi (It.num (It.int (List.getD l i (0 : Int)))), AV.isl 1 0 fun (i_1 x : Nat) => Zb (It.fb (It.int (List.getD l i (0 : Int))) i_1), AV.isl 4 0 (It.row (It.int (List.getD l i (0 : Int))))]) (Rep.lst [[Zi 1, Zi (List.getD l (Int.toNat (↑(x0.1) : Int)) (0 : Int)), AV.nsl, AV.nsl]])⟩])))) (.out (AV.agg [Zi 3, Zi 0, AV.nsl, AV.isl 4 x0.1 fun (r k : Nat) => atL [Zi (It.kind (It.int (List.getD l (r + 0) (0 : Int)))), Zi (It.num (It.int (List.getD l (r + 0) (0 : Int)))), AV.isl 1 0 fun (i x : Nat) => Zb (It.fb (It.int (List.getD l (r + 0) (0 : Int))) i), AV.isl 4 0 (It.row (It.int (List.getD l (r + 0) (0 : Int))))] k]) [] (It.av (intsI l)) [])))))
    (by kernel_rfl) ?_
  refine k_loop (fun _ hs => hs.le (by repeat' (first | exact trivial | (first | exact Ent.refl _ | exact inc_ent (by omega) | exact Ent.nil rfl | exact Ent.of_eq (congrArg (AV.osl _ _ _) (by first | omega | (dsimp only; omega))) | exact Ent.of_eq (congrArg (AV.int _) (by first | omega | (dsimp only; omega)))) | refine And.intro ?_ ?_)) (by repeat' (first | exact trivial | (first | exact ObEnt.refl _ | exact ObEnt.junk | exact ObEnt.zero | exact ObEnt.push rfl rfl | exact ObEnt.pushRow rfl | exact ObEnt.len (by omega) | exact ObEnt.row (by repeat' (first | exact trivial | (first | exact Ent.refl _ | exact inc_ent (by omega) | exact Ent.nil rfl | exact Ent.of_eq (congrArg (AV.osl _ _ _) (by first | omega | (dsimp only; omega))) | exact Ent.of_eq (congrArg (AV.int _) (by first | omega | (dsimp only; omega)))) | refine And.intro ?_ ?_))) | refine And.intro ?_ ?_))) (fun x0 => ?_)
  try (have q0 := x0.2; dsimp only at q0)
  refine k_br (fun h1 => ?_) (fun h1 => ?_)
  · have g1 := cnd_dec_t h1
    refine k_req (by omega) ?_
    refine k_req (by omega) ?_
    exact k_again (⟨x0.1 + 1, by omega⟩) (fun _ hs => hs.le (by repeat' (first | exact trivial | (first | exact Ent.refl _ | exact inc_ent (by omega) | exact Ent.nil rfl | exact Ent.of_eq (congrArg (AV.osl _ _ _) (by first | omega | (dsimp only; omega))) | exact Ent.of_eq (congrArg (AV.int _) (by first | omega | (dsimp only; omega)))) | refine And.intro ?_ ?_)) (⟨by exact ObEnt.refl _, by exact ObEnt.refl _, int_push rfl rfl, trivial⟩)) (by (dsimp only; omega))
  · have g1 := cnd_dec_f h1
    exact k_out (ints_out (by omega))

theorem rints_c (l : List Int) (hl : l.length ≤ 1000000) : Pure Tryz.prog gl0 121 [il .i64 l] (intsI l).av := by
  refine pure_sk (own := ow0) Tryz.func121 (by kernel_rfl) mixed (by kernel_rfl)
    (let y0 : List AV := [Zi 0, Zi 0, AV.nsl, AV.nsl]; (.loop ({ x : Nat // x ≤ List.length l }) (fun (x : { x : Nat // x ≤ List.length l }) => mkSt [0, 2, 3, 4] [AV.isl 1 (List.length l) fun (i x : Nat) => Zi (List.getD l i (0 : Int)), AV.own 0 4 0 0 4, AV.own 1 4 0 0 4, Zi (↑(x.1) : Int)] [some ⟨4, 1, true, Rep.lst [y0]⟩, some ⟨4, 1, true, Rep.lst [[Zi 3, Zi 0, AV.nsl, AV.osl 2 4 0 (x.1)]]⟩, some ⟨4, x.1, true, Rep.row fun (i : Nat) => It.cells (It.int (List.getD l i (0 : Int)))⟩]) (fun (x : { x : Nat // x ≤ List.length l }) => List.length l - x.1) (⟨0, Nat.zero_le (List.length l)⟩) ([0, 2, 3, 4]) ([0, 16, 1066]) ([AV.isl 1 (List.length l) fun (i x : Nat) => Zi (List.getD l i (0 : Int)), AV.own 0 4 0 0 4, AV.own 1 4 0 0 4, Zi 0]) ([some ⟨4, 1, true, Rep.lst [y0]⟩, some ⟨4, 1, true, Rep.lst [[Zi 3, Zi 0, AV.nsl, AV.nsl]]⟩, some ⟨4, 0, true, Rep.lst []⟩]) (fun x0 => (.br (decide ((↑x0.1 : Int) < (↑(List.length l) : Int))) (.req ((0 : Int) ≤ (↑x0.1 : Int) ∧ (↑x0.1 : Int) < (↑(List.length l) : Int)) (.req ((x0.1 + 1) * 64 ≤ 140737488355328) (.again (Again 0 (fun (x : { x : Nat // x ≤ List.length l }) => mkSt [0, 2, 3, 4] [AV.isl 1 (List.length l) fun (i x : Nat) => Zi (List.getD l i (0 : Int)), AV.own 0 4 0 0 4, AV.own 1 4 0 0 4, Zi (↑(x.1) : Int)] [some ⟨4, 1, true, Rep.lst [y0]⟩, some ⟨4, 1, true, Rep.lst [[Zi 3, Zi 0, AV.nsl, AV.osl 2 4 0 (x.1)]]⟩, some ⟨4, x.1, true, Rep.row fun (i : Nat) => It.cells (It.int (List.getD l i (0 : Int)))⟩]) (fun (x : { x : Nat // x ≤ List.length l }) => List.length l - x.1) x0) ([0, 2, 3, 4]) ([0, 1, 99]) ([AV.isl 1 (List.length l) fun (i x : Nat) => Zi (List.getD l i (0 : Int)), AV.own 0 4 0 0 4, AV.own 1 4 0 0 4, Zi (IntKind.wrap IntKind.i64 ((↑x0.1 : Int) + 1))]) ([some ⟨4, 1, true, Rep.lst [y0]⟩, some ⟨4, 1, true, Rep.lst [[Zi 3, Zi 0, AV.nsl, AV.osl 2 4 0 (x0.1 + 1)]]⟩, some ⟨4, x0.1 + 1, true, Rep.cat x0.1 (Rep.row fun (i : Nat) => [Zi (It.kind (It.int (List.getD l i (0 : Int)))), Zi (It.num (It.int (List.getD l i (0 : Int)))), AV.isl 1 0 fun (i_1 x : Nat) => Zb (It.fb (It.int (List.getD l i (0 : Int))) i_1), AV.isl 4 0 (It.row (It.int (List.getD l i (0 : Int))))]) (Rep.lst [[Zi 1, Zi (List.getD l (Int.toNat (↑(x0.1) : Int)) (0 : Int)), AV.nsl, AV.nsl]])⟩])))) (.out (AV.agg [Zi 3, Zi 0, AV.nsl, AV.isl 4 x0.1 fun (r k : Nat) => atL [Zi (It.kind (It.int (List.getD l (r + 0) (0 : Int)))), Zi (It.num (It.int (List.getD l (r + 0) (0 : Int)))), AV.isl 1 0 fun (i x : Nat) => Zb (It.fb (It.int (List.getD l (r + 0) (0 : Int))) i), AV.isl 4 0 (It.row (It.int (List.getD l (r + 0) (0 : Int))))] k]) [] (It.av (intsI l)) [])))))
    (by kernel_rfl) ?_
  refine k_loop (fun _ hs => hs.le (by repeat' (first | exact trivial | (first | exact Ent.refl _ | exact inc_ent (by omega) | exact Ent.nil rfl | exact Ent.of_eq (congrArg (AV.osl _ _ _) (by first | omega | (dsimp only; omega))) | exact Ent.of_eq (congrArg (AV.int _) (by first | omega | (dsimp only; omega)))) | refine And.intro ?_ ?_)) (by repeat' (first | exact trivial | (first | exact ObEnt.refl _ | exact ObEnt.junk | exact ObEnt.zero | exact ObEnt.push rfl rfl | exact ObEnt.pushRow rfl | exact ObEnt.len (by omega) | exact ObEnt.row (by repeat' (first | exact trivial | (first | exact Ent.refl _ | exact inc_ent (by omega) | exact Ent.nil rfl | exact Ent.of_eq (congrArg (AV.osl _ _ _) (by first | omega | (dsimp only; omega))) | exact Ent.of_eq (congrArg (AV.int _) (by first | omega | (dsimp only; omega)))) | refine And.intro ?_ ?_))) | refine And.intro ?_ ?_))) (fun x0 => ?_)
  try (have q0 := x0.2; dsimp only at q0)
  refine k_br (fun h1 => ?_) (fun h1 => ?_)
  · have g1 := cnd_dec_t h1
    refine k_req (by omega) ?_
    refine k_req (by omega) ?_
    exact k_again (⟨x0.1 + 1, by omega⟩) (fun _ hs => hs.le (by repeat' (first | exact trivial | (first | exact Ent.refl _ | exact inc_ent (by omega) | exact Ent.nil rfl | exact Ent.of_eq (congrArg (AV.osl _ _ _) (by first | omega | (dsimp only; omega))) | exact Ent.of_eq (congrArg (AV.int _) (by first | omega | (dsimp only; omega)))) | refine And.intro ?_ ?_)) (⟨by exact ObEnt.refl _, by exact ObEnt.refl _, int_push rfl rfl, trivial⟩)) (by (dsimp only; omega))
  · have g1 := cnd_dec_f h1
    exact k_out (ints_out (by omega))

theorem ints_2 (a b : Int) : Pure Tryz.prog gl0 148 [.isl 1 2 fun r k => atL (List.getD [[.int .i64 a], [.int .i64 b]] r []) k] (intsI [a, b]).av :=
  (ints_c [a, b] (by simp)).via ⟨il_rows rfl rfl, trivial⟩
theorem rints_2 (a b : Int) : Pure Tryz.prog gl0 121 [.isl 1 2 fun r k => atL (List.getD [[.int .i64 a], [.int .i64 b]] r []) k] (intsI [a, b]).av :=
  (rints_c [a, b] (by simp)).via ⟨il_rows rfl rfl, trivial⟩

theorem rbytes31_c (f : Nat → Int) : Pure Tryz.prog gl0 119 [.agg (u8c f)] (It.byt 32 f).av := by
  refine pure_sk (own := ow0) Tryz.func119 (by kernel_rfl) mixed (by kernel_rfl)
    (let y0 : List AV := [Zi 0, Zi 0, AV.nsl, AV.nsl]; (.loop ({ x : Nat // x ≤ 32 }) (fun (x : { x : Nat // x ≤ 32 }) => mkSt [1, 2, 3, 4] [AV.own 0 32 0 0 32, AV.own 1 4 0 0 4, AV.own 2 4 0 0 4, Zi (↑(x.1) : Int)] [some ⟨32, 1, true, Rep.lst [u8c f]⟩, some ⟨4, 1, true, Rep.lst [y0]⟩, some ⟨4, 1, true, Rep.lst [[Zi 2, Zi 0, AV.osl 3 1 0 (x.1), AV.nsl]]⟩, some ⟨1, x.1, true, Rep.fn fun (i x : Nat) => Zb (f i)⟩]) (fun (x : { x : Nat // x ≤ 32 }) => 32 - x.1) (⟨0, Nat.zero_le 32⟩) ([1, 2, 3, 4]) ([0, 8, 24, 307]) ([AV.own 0 32 0 0 32, AV.own 1 4 0 0 4, AV.own 2 4 0 0 4, Zi 0]) ([some ⟨32, 1, true, Rep.lst [u8c f]⟩, some ⟨4, 1, true, Rep.lst [y0]⟩, some ⟨4, 1, true, Rep.lst [[Zi 2, Zi 0, AV.nsl, AV.nsl]]⟩, some ⟨1, 0, true, Rep.lst []⟩]) (fun x0 => (.br (decide ((↑x0.1 : Int) < 32)) (.req ((0 : Int) ≤ (↑x0.1 : Int) ∧ (↑x0.1 : Int) < (↑(32) : Int)) (.req ((x0.1 + 1) * 1 ≤ 140737488355328) (.again (Again 0 (fun (x : { x : Nat // x ≤ 32 }) => mkSt [1, 2, 3, 4] [AV.own 0 32 0 0 32, AV.own 1 4 0 0 4, AV.own 2 4 0 0 4, Zi (↑(x.1) : Int)] [some ⟨32, 1, true, Rep.lst [u8c f]⟩, some ⟨4, 1, true, Rep.lst [y0]⟩, some ⟨4, 1, true, Rep.lst [[Zi 2, Zi 0, AV.osl 3 1 0 (x.1), AV.nsl]]⟩, some ⟨1, x.1, true, Rep.fn fun (i x : Nat) => Zb (f i)⟩]) (fun (x : { x : Nat // x ≤ 32 }) => 32 - x.1) x0) ([1, 2, 3, 4]) ([0, 1, 2, 68]) ([AV.own 0 32 0 0 32, AV.own 1 4 0 0 4, AV.own 2 4 0 0 4, Zi (IntKind.wrap IntKind.i64 ((↑x0.1 : Int) + 1))]) ([some ⟨32, 1, true, Rep.lst [u8c f]⟩, some ⟨4, 1, true, Rep.lst [y0]⟩, some ⟨4, 1, true, Rep.lst [[Zi 2, Zi 0, AV.osl 3 1 0 (x0.1 + 1), AV.nsl]]⟩, some ⟨1, x0.1 + 1, true, Rep.fn fun (i j : Nat) => Zb (bif Nat.blt i x0.1 then f i else intOfAV (atL [Zb (intOfAV (Rep.at (Ob.f (Ob.seen ⟨32, 1, true, Rep.lst [u8c f]⟩)) 0 (0 + Int.toNat (↑(x0.1) : Int))))] j))⟩])))) (.out (AV.agg [Zi 2, Zi 0, AV.isl 1 x0.1 fun (r k : Nat) => Zb (f (r + 0)), AV.nsl]) [] (It.av (It.byt 32 f)) [])))))
    (by kernel_rfl) ?_
  refine k_loop (fun _ hs => hs.le (by repeat' (first | exact trivial | (first | exact Ent.refl _ | exact inc_ent (by omega) | exact Ent.nil rfl | exact Ent.of_eq (congrArg (AV.osl _ _ _) (by first | omega | (dsimp only; omega))) | exact Ent.of_eq (congrArg (AV.int _) (by first | omega | (dsimp only; omega)))) | refine And.intro ?_ ?_)) (by repeat' (first | exact trivial | (first | exact ObEnt.refl _ | exact ObEnt.junk | exact ObEnt.zero | exact ObEnt.push rfl rfl | exact ObEnt.pushRow rfl | exact ObEnt.len (by omega) | exact ObEnt.row (by repeat' (first | exact trivial | (first | exact Ent.refl _ | exact inc_ent (by omega) | exact Ent.nil rfl | exact Ent.of_eq (congrArg (AV.osl _ _ _) (by first | omega | (dsimp only; omega))) | exact Ent.of_eq (congrArg (AV.int _) (by first | omega | (dsimp only; omega)))) | refine And.intro ?_ ?_))) | refine And.intro ?_ ?_))) (fun x0 => ?_)
  try (have q0 := x0.2; dsimp only at q0)
  refine k_br (fun h1 => ?_) (fun h1 => ?_)
  · have g1 := cnd_dec_t h1
    refine k_req (by omega) ?_
    refine k_req (by omega) ?_
    exact k_again (⟨x0.1 + 1, by omega⟩) (fun _ hs => hs.le (by repeat' (first | exact trivial | (first | exact Ent.refl _ | exact inc_ent (by omega) | exact Ent.nil rfl | exact Ent.of_eq (congrArg (AV.osl _ _ _) (by first | omega | (dsimp only; omega))) | exact Ent.of_eq (congrArg (AV.int _) (by first | omega | (dsimp only; omega)))) | refine And.intro ?_ ?_)) (⟨by exact ObEnt.refl _, by exact ObEnt.refl _, by exact ObEnt.refl _, ObEnt.pushF (F := f) rfl (by show intOfAV (atL (u8c f) (0 + x0.1)) = f x0.1; rw [Nat.zero_add, u8c_at (by omega)]), trivial⟩)) (by (dsimp only; omega))
  · have g1 := cnd_dec_f h1
    exact k_out (byts_out (by omega))

end Go.Proofs.YtdaaddkipdmajaaGreatDoor

namespace Go.Proofs.YtdaaddkipdmajaaGreatDoor
open Go Go.Am Go.Sp
set_option maxRecDepth 100000

theorem ints_4 (a0 a1 a2 a3 : Int) : Pure Tryz.prog gl0 148 [.isl 1 4 fun r k => atL (List.getD [[.int .i64 a0], [.int .i64 a1], [.int .i64 a2], [.int .i64 a3]] r []) k] (intsI [a0, a1, a2, a3]).av := (ints_c [a0, a1, a2, a3] (by simp)).via ⟨il_rows rfl rfl, trivial⟩
theorem ints_5 (a0 a1 a2 a3 a4 : Int) : Pure Tryz.prog gl0 148 [.isl 1 5 fun r k => atL (List.getD [[.int .i64 a0], [.int .i64 a1], [.int .i64 a2], [.int .i64 a3], [.int .i64 a4]] r []) k] (intsI [a0, a1, a2, a3, a4]).av := (ints_c [a0, a1, a2, a3, a4] (by simp)).via ⟨il_rows rfl rfl, trivial⟩
theorem rints_4 (a0 a1 a2 a3 : Int) : Pure Tryz.prog gl0 121 [.isl 1 4 fun r k => atL (List.getD [[.int .i64 a0], [.int .i64 a1], [.int .i64 a2], [.int .i64 a3]] r []) k] (intsI [a0, a1, a2, a3]).av := (rints_c [a0, a1, a2, a3] (by simp)).via ⟨il_rows rfl rfl, trivial⟩
theorem rints_5 (a0 a1 a2 a3 a4 : Int) : Pure Tryz.prog gl0 121 [.isl 1 5 fun r k => atL (List.getD [[.int .i64 a0], [.int .i64 a1], [.int .i64 a2], [.int .i64 a3], [.int .i64 a4]] r []) k] (intsI [a0, a1, a2, a3, a4]).av := (rints_c [a0, a1, a2, a3, a4] (by simp)).via ⟨il_rows rfl rfl, trivial⟩

theorem cloneU_n : Pure Tryz.prog gl0 212 [.nsl] .nsl := by
  refine pure_sk (own := ow0) Tryz.func212 (by kernel_rfl) mixed (by kernel_rfl)
    (.tt (.out (AV.nsl) [] (AV.nsl) []))
    (by kernel_rfl) ?_
  refine k_tt ?_
  exact k_out (Ent.refl _)
theorem cloneU_s (f : Nat → Int) (n : Nat) (hn : n ≤ 1099511627776) : Pure Tryz.prog gl0 212 [.nn (bys n f)] (bys n f) := by
  refine pure_sk (own := ow0) Tryz.func212 (by kernel_rfl) mixed (by kernel_rfl)
    (.ff (.req ((0 + n) * 1 ≤ 140737488355328) (.out (AV.isl 1 (0 + n) fun (r k : Nat) => Zb (f (r + 0))) [] (bys n f) [])))
    (by kernel_rfl) ?_
  refine k_ff ?_
  refine k_req (by omega) ?_
  exact k_out (bys_eq (by omega) (fun i _ => rfl))
theorem cloneU_c (f : Nat → Int) (n : Nat) (hn : n ≤ 1099511627776) : Pure Tryz.prog gl0 212 [bys n f] (bys n f) :=
  Gives.nilSplit [] [] 1 n _ (fun h => by subst h; exact cloneU_n.ent Ent.nsl) (cloneU_s f n hn)

theorem bytes_c (f : Nat → Int) : Pure Tryz.prog gl0 146 [.agg (u8c f)] (It.byt 32 f).av := by
  refine pure_sk (own := ow0) Tryz.func146 (by kernel_rfl) mixed (by kernel_rfl)
    (.dc (true) 212 ([AV.isl 1 32 fun (r x : Nat) => Zb (intOfAV (atL (u8c f) (0 + (0 + r))))]) (bys 32 fun (i : Nat) => intOfAV (atL (u8c f) (0 + (0 + i)))) (.out (AV.agg [Zi 2, Zi 0, AV.isl 1 32 fun (i x : Nat) => Zb (intOfAV (atL (u8c f) (0 + (0 + i)))), AV.nsl]) [] (It.av (It.byt 32 f)) []))
    (by kernel_rfl) ?_
  refine k_dc (cloneU_c (fun (i : Nat) => intOfAV (atL (u8c f) (0 + (0 + i)))) (32) (by omega)) ?_
  exact k_out (Ent.agg ⟨Ent.refl _, Ent.refl _, bys_eq rfl (fun i hi => by rw [Nat.zero_add, Nat.zero_add]; exact u8c_at hi), Ent.nsl, trivial⟩)

theorem list_c (n : Nat) (f : Nat → Nat → AV) : Pure Tryz.prog gl0 145 [.isl 4 n f] (.agg [.int .i64 3, .int .i64 0, .nsl, .isl 4 n f]) := by
  refine pure_sk (own := ow0) Tryz.func145 (by kernel_rfl) mixed (by kernel_rfl)
    (let y0 : AV := (AV.agg [Zi 3, Zi 0, AV.nsl, AV.isl 4 n f]); (.out y0 [] y0 []))
    (by kernel_rfl) ?_
  exact k_out (Ent.refl _)

def ow4 : FuncId → Option (List Bool) := fun f => bif Nat.beq f 250 then some [true, false] else bif Nat.beq f 251 then some [true, false] else none

theorem wints_5 (a0 a1 a2 a3 a4 : Int) : Gives Tryz.prog gl0 250 [⟨1, 1, true, .lst [[.nsl]]⟩] [.own 0 1 0 0 1, .isl 1 5 fun r k => atL (List.getD [[.int .i64 a0], [.int .i64 a1], [.int .i64 a2], [.int .i64 a3], [.int .i64 a4]] r []) k] .junk [some ⟨1, 1, true, .lst [[.osl 1 4 0 1]]⟩, some ⟨4, 1, true, .lst [(intsI [a0, a1, a2, a3, a4]).cells]⟩] := by
  refine gives_sk (own := ow0) (hand := true) Tryz.func250 (by kernel_rfl) mixed (by kernel_rfl)
    (.dc (true) 148 ([AV.isl 1 5 fun (r k : Nat) => atL (List.getD [[Zi a0], [Zi a1], [Zi a2], [Zi a3], [Zi a4]] r []) k]) (It.av (intsI [a0, a1, a2, a3, a4])) (.req (64 ≤ 140737488355328) (.req ((0 : Int) ≤ 0 ∧ (0 : Int) < (↑(1) : Int)) (.out (AV.tup []) ([some ⟨1, 1, true, Rep.lst [[AV.osl 1 4 0 1]]⟩, some ⟨4, 1, true, Rep.lst [[Zi (It.kind (intsI [a0, a1, a2, a3, a4])), Zi (It.num (intsI [a0, a1, a2, a3, a4])), AV.isl 1 0 fun (i x : Nat) => Zb (It.fb (intsI [a0, a1, a2, a3, a4]) i), AV.isl 4 5 (It.row (intsI [a0, a1, a2, a3, a4]))]]⟩]) (AV.junk) ([some ⟨1, 1, true, Rep.lst [[AV.osl 1 4 0 1]]⟩, some ⟨4, 1, true, Rep.lst [It.cells (intsI [a0, a1, a2, a3, a4])]⟩])))))
    (by kernel_rfl) ?_
  refine k_dc (ints_5 (a0) (a1) (a2) (a3) (a4)) ?_
  refine k_req (by omega) ?_
  refine k_req (by omega) ?_
  exact k_outg (Ent.junk _) (⟨.refl _, .refl _, trivial⟩)

theorem wbytes_1 (x : It) (f : Nat → Int) : Gives Tryz.prog gl0 251 [⟨1, 1, true, .lst [[.osl 1 4 0 1]]⟩, ⟨4, 1, true, .lst [x.cells]⟩] [.own 0 1 0 0 1, bys 32 f] .junk [some ⟨1, 1, true, .lst [[.osl 2 4 0 2]]⟩, none, some ⟨4, 2, true, .lst [x.cells, (It.byt 32 f).cells]⟩] := by
  refine gives_sk (own := ow0) (hand := true) Tryz.func251 (by kernel_rfl) mixed (by kernel_rfl)
    (.dc (true) 212 ([AV.isl 1 32 fun (i x : Nat) => Zb (f i)]) (bys 32 f) (.req (128 ≤ 140737488355328) (.req ((0 : Int) ≤ (↑(1) : Int) ∧ (↑(1) : Int) < (↑(2) : Int)) (.out (AV.tup []) ([some ⟨1, 1, true, Rep.lst [[AV.osl 2 4 0 2]]⟩, none, some ⟨4, 2, true, Rep.lst [[Zi (It.kind x), Zi (It.num x), AV.isl 1 (It.nb x) fun (i x_1 : Nat) => Zb (It.fb x i), AV.isl 4 (It.nl x) (It.row x)], [Zi 2, Zi 0, AV.isl 1 32 fun (i x : Nat) => Zb (f i), AV.nsl]]⟩]) (AV.junk) ([some ⟨1, 1, true, Rep.lst [[AV.osl 2 4 0 2]]⟩, none, some ⟨4, 2, true, Rep.lst [It.cells x, It.cells (It.byt 32 f)]⟩])))))
    (by kernel_rfl) ?_
  refine k_dc (cloneU_c (f) (32) (by omega)) ?_
  refine k_req (by omega) ?_
  refine k_req (by omega) ?_
  exact k_outg (Ent.junk _) (⟨ObEnt.refl _, row2_ob (EntL.refl _) (byt_row 32 f), trivial⟩)

theorem wints_2 (x y : It) (a0 a1 a2 a3 : Int) : Gives Tryz.prog gl0 250 [⟨1, 1, true, .lst [[.osl 1 4 0 2]]⟩, ⟨4, 2, true, .lst [x.cells, y.cells]⟩] [.own 0 1 0 0 1, .isl 1 4 fun r k => atL (List.getD [[.int .i64 a0], [.int .i64 a1], [.int .i64 a2], [.int .i64 a3]] r []) k] .junk [some ⟨1, 1, true, .lst [[.osl 2 4 0 3]]⟩, none, some ⟨4, 3, true, .lst [x.cells, y.cells, (intsI [a0, a1, a2, a3]).cells]⟩] := by
  refine gives_sk (own := ow0) (hand := true) Tryz.func250 (by kernel_rfl) mixed (by kernel_rfl)
    (.dc (true) 148 ([AV.isl 1 4 fun (r k : Nat) => atL (List.getD [[Zi a0], [Zi a1], [Zi a2], [Zi a3]] r []) k]) (It.av (intsI [a0, a1, a2, a3])) (.req (192 ≤ 140737488355328) (.req ((0 : Int) ≤ (↑(2) : Int) ∧ (↑(2) : Int) < (↑(3) : Int)) (.out (AV.tup []) ([some ⟨1, 1, true, Rep.lst [[AV.osl 2 4 0 3]]⟩, none, some ⟨4, 3, true, Rep.lst [[Zi (It.kind x), Zi (It.num x), AV.isl 1 (It.nb x) fun (i x_1 : Nat) => Zb (It.fb x i), AV.isl 4 (It.nl x) (It.row x)], [Zi (It.kind y), Zi (It.num y), AV.isl 1 (It.nb y) fun (i x : Nat) => Zb (It.fb y i), AV.isl 4 (It.nl y) (It.row y)], [Zi (It.kind (intsI [a0, a1, a2, a3])), Zi (It.num (intsI [a0, a1, a2, a3])), AV.isl 1 0 fun (i x : Nat) => Zb (It.fb (intsI [a0, a1, a2, a3]) i), AV.isl 4 4 (It.row (intsI [a0, a1, a2, a3]))]]⟩]) (AV.junk) ([some ⟨1, 1, true, Rep.lst [[AV.osl 2 4 0 3]]⟩, none, some ⟨4, 3, true, Rep.lst [It.cells x, It.cells y, It.cells (intsI [a0, a1, a2, a3])]⟩])))))
    (by kernel_rfl) ?_
  refine k_dc (ints_4 (a0) (a1) (a2) (a3)) ?_
  refine k_req (by omega) ?_
  refine k_req (by omega) ?_
  exact k_outg (Ent.junk _) (⟨.refl _, .refl _, trivial⟩)

theorem citem_w (c : Coin) : Pure Tryz.prog gl0 213 [c.av] c.it.av := by
  refine pure_sk (own := ow4) Tryz.func213 (by kernel_rfl) mixed (by kernel_rfl)
    (let y0 : List AV := [Zi (It.kind (intsI [c.1, c.2, c.3, c.4, c.5])), Zi (It.num (intsI [c.1, c.2, c.3, c.4, c.5])), AV.isl 1 0 fun (i x : Nat) => Zb (It.fb (intsI [c.1, c.2, c.3, c.4, c.5]) i), AV.isl 4 5 (It.row (intsI [c.1, c.2, c.3, c.4, c.5]))]; let y1 : List AV := [Zi (It.kind (It.byt 32 fun (i : Nat) => intOfAV (atL (Coin.cells c) (5 + (0 + i))))), Zi (It.num (It.byt 32 fun (i : Nat) => intOfAV (atL (Coin.cells c) (5 + (0 + i))))), AV.isl 1 32 fun (i x : Nat) => Zb (It.fb (It.byt 32 fun (i : Nat) => intOfAV (atL (Coin.cells c) (5 + (0 + i)))) i), AV.isl 4 0 (It.row (It.byt 32 fun (i : Nat) => intOfAV (atL (Coin.cells c) (5 + (0 + i)))))]; (.gc 250 ([⟨1, 1, true, Rep.lst [[AV.nsl]]⟩]) ([AV.own 0 1 0 0 1, AV.isl 1 5 fun (r k : Nat) => atL (List.getD [[Zi c.1], [Zi c.2], [Zi c.3], [Zi c.4], [Zi c.5]] (r + 0) []) k]) (AV.junk) ([some ⟨1, 1, true, Rep.lst [[AV.osl 1 4 0 1]]⟩, some ⟨4, 1, true, Rep.lst [It.cells (intsI [c.1, c.2, c.3, c.4, c.5])]⟩]) (.gc 251 ([⟨1, 1, true, Rep.lst [[AV.osl 1 4 0 1]]⟩, ⟨4, 1, true, Rep.lst [y0]⟩]) ([AV.own 0 1 0 0 1, AV.isl 1 32 fun (r x : Nat) => Zb (intOfAV (atL (Coin.cells c) (5 + (0 + r))))]) (AV.junk) ([some ⟨1, 1, true, Rep.lst [[AV.osl 2 4 0 2]]⟩, none, some ⟨4, 2, true, Rep.lst [It.cells (intsI [c.1, c.2, c.3, c.4, c.5]), It.cells (It.byt 32 fun (i : Nat) => intOfAV (atL (Coin.cells c) (5 + (0 + i))))]⟩]) (.gc 250 ([⟨1, 1, true, Rep.lst [[AV.osl 1 4 0 2]]⟩, ⟨4, 2, true, Rep.lst [y0, y1]⟩]) ([AV.own 0 1 0 0 1, AV.isl 1 4 fun (r k : Nat) => atL (List.getD [[Zi c.7], [Zi c.8], [Zi c.9], [Zi c.10]] (r + 0) []) k]) (AV.junk) ([some ⟨1, 1, true, Rep.lst [[AV.osl 2 4 0 3]]⟩, none, some ⟨4, 3, true, Rep.lst [It.cells (intsI [c.1, c.2, c.3, c.4, c.5]), It.cells (It.byt 32 fun (i : Nat) => intOfAV (atL (Coin.cells c) (5 + (0 + i)))), It.cells (intsI [c.7, c.8, c.9, c.10])]⟩]) (.out (AV.agg [Zi 3, Zi 0, AV.nsl, AV.isl 4 3 fun (r k : Nat) => atL (List.getD [y0, y1, [Zi (It.kind (intsI [c.7, c.8, c.9, c.10])), Zi (It.num (intsI [c.7, c.8, c.9, c.10])), AV.isl 1 0 fun (i x : Nat) => Zb (It.fb (intsI [c.7, c.8, c.9, c.10]) i), AV.isl 4 4 (It.row (intsI [c.7, c.8, c.9, c.10]))]] (r + 0) []) k]) [] (It.av (Coin.it c)) [])))))
    (by kernel_rfl) ?_
  refine k_gc (wints_5 (c.1) (c.2) (c.3) (c.4) (c.5)) ?_
  refine k_gc (wbytes_1 (intsI [c.1, c.2, c.3, c.4, c.5]) (fun (i : Nat) => intOfAV (atL (Coin.cells c) (5 + (0 + i))))) ?_
  refine k_gc (wints_2 (intsI [c.1, c.2, c.3, c.4, c.5]) (It.byt (32 : Nat) fun (i : Nat) => intOfAV (atL (Coin.cells c) (5 + (0 + i)))) (c.7) (c.8) (c.9) (c.10)) ?_
  exact k_out (li3_out (EntL.refl _) ⟨Ent.refl _, Ent.refl _, bys_eq rfl (fun i hi => by
                                                                                                     show intOfAV (atL c.cells (5 + (0 + i))) = c.root i
                                                                                                     rw [Nat.zero_add]
                                                                                                     exact c.root_at hi), Ent.refl _, trivial⟩ (EntL.refl _))

theorem ritem_w (c : Coin) : Pure Tryz.prog gl0 190 [c.av] c.it.av := by
  refine pure_sk (own := ow4) Tryz.func190 (by kernel_rfl) mixed (by kernel_rfl)
    (.dc (true) 121 ([AV.isl 1 5 fun (r k : Nat) => atL (List.getD [[Zi c.1], [Zi c.2], [Zi c.3], [Zi c.4], [Zi c.5]] (r + 0) []) k]) (It.av (intsI [c.1, c.2, c.3, c.4, c.5])) (.dc (true) 119 ([AV.agg (u8c c.6)]) (It.av (It.byt 32 c.6)) (.dc (true) 121 ([AV.isl 1 4 fun (r k : Nat) => atL (List.getD [[Zi c.7], [Zi c.8], [Zi c.9], [Zi c.10]] (r + 0) []) k]) (It.av (intsI [c.7, c.8, c.9, c.10])) (.out (AV.agg [Zi 3, Zi 0, AV.nsl, AV.isl 4 3 fun (r k : Nat) => atL (List.getD [[Zi (It.kind (intsI [c.1, c.2, c.3, c.4, c.5])), Zi (It.num (intsI [c.1, c.2, c.3, c.4, c.5])), AV.isl 1 0 fun (i x : Nat) => Zb (It.fb (intsI [c.1, c.2, c.3, c.4, c.5]) i), AV.isl 4 5 (It.row (intsI [c.1, c.2, c.3, c.4, c.5]))], [Zi (It.kind (It.byt 32 c.6)), Zi (It.num (It.byt 32 c.6)), AV.isl 1 32 fun (i x : Nat) => Zb (It.fb (It.byt 32 c.6) i), AV.isl 4 0 (It.row (It.byt 32 c.6))], [Zi (It.kind (intsI [c.7, c.8, c.9, c.10])), Zi (It.num (intsI [c.7, c.8, c.9, c.10])), AV.isl 1 0 fun (i x : Nat) => Zb (It.fb (intsI [c.7, c.8, c.9, c.10]) i), AV.isl 4 4 (It.row (intsI [c.7, c.8, c.9, c.10]))]] (r + 0) []) k]) [] (It.av (Coin.it c)) []))))
    (by kernel_rfl) ?_
  refine k_dc (rints_5 (c.1) (c.2) (c.3) (c.4) (c.5)) ?_
  refine k_dc (rbytes31_c (c.6)) ?_
  refine k_dc (rints_4 (c.7) (c.8) (c.9) (c.10)) ?_
  exact k_out (li3_out (EntL.refl _) (EntL.refl _) (EntL.refl _))

end Go.Proofs.YtdaaddkipdmajaaGreatDoor

namespace Go.Proofs.YtdaaddkipdmajaaGreatDoor
open Go Go.Am Go.Sp
set_option maxRecDepth 100000

theorem node_c (d l i : Int) : Pure Tryz.prog gl0 68 [.int .i64 d, .agg [.int .i64 l, .int .i64 i]] (.bool (nodeB d l i)) := by
  refine pure_sk (own := ow0) Tryz.func68 (by kernel_rfl) mixed (by kernel_rfl)
    (.req (((decide (d ≥ 0) && decide (d ≤ 5) && decide (l ≥ 0) && decide (l ≤ d) && decide (i ≥ 0)) == true) = true → (0 : Int) ≤ l) (.out (AV.bool (decide (d ≥ 0) && decide (d ≤ 5) && decide (l ≥ 0) && decide (l ≤ d) && decide (i ≥ 0) && decide (i < IntKind.wrap IntKind.i64 ((1 : Int) * 2 ^ min (Int.toNat l) 64)))) [] (AV.bool (nodeB d l i)) []))
    (by kernel_rfl) ?_
  refine k_req (fun hr => by have hr := (cnd_eqt_t (cnd_and_t (cnd_and_t (cnd_and_t (cnd_and_t cnd_dec_t cnd_dec_t) cnd_dec_t) cnd_dec_t) cnd_dec_t)) hr; omega) ?_
  exact k_out (Ent.of_eq (congrArg _ (node_m d l i)))

theorem span_c (d l i : Int) : Pure Tryz.prog gl0 25 [.int .i64 d, .agg [.int .i64 l, .int .i64 i]] (.tup [.int .i64 (spanA d l i), .int .i64 (spanZ d l i), .int .i64 (spanE d l i)]) := by
  refine pure_sk (own := ow0) Tryz.func25 (by kernel_rfl) mixed (by kernel_rfl)
    (let y0 : AV := (AV.tup [Zi (spanA d l i), Zi (spanZ d l i), Zi (spanE d l i)]); let y1 : Nat := (Int.toNat (IntKind.wrap IntKind.i64 (d - l))); (.br (decide (d < 0) || decide (d > 5)) (.out (AV.tup [Zi 0, Zi 0, Zi 1]) [] y0 []) (.sc (true) 68 ([Zi d, AV.agg [Zi l, Zi i]]) (AV.bool (nodeB d l i)) (.br (!nodeB d l i) (.out (AV.tup [Zi 0, Zi 0, Zi 2]) [] y0 []) (.req ((0 : Int) ≤ IntKind.wrap IntKind.i64 (d - l)) (.out (AV.tup [Zi (IntKind.wrap IntKind.i64 (i * IntKind.wrap IntKind.i64 ((1 : Int) * 2 ^ min y1 64))), Zi (IntKind.wrap IntKind.i64 (IntKind.wrap IntKind.i64 (i + 1) * IntKind.wrap IntKind.i64 ((1 : Int) * 2 ^ min y1 64))), Zi 0]) [] y0 []))))))
    (by kernel_rfl) ?_
  refine k_br (fun h0 => ?_) (fun h0 => ?_)
  · have g0 := (cnd_or_t cnd_dec_t cnd_dec_t) h0
    exact k_out (Ent.of_eq (by obtain ⟨a, b, c⟩ := span_1 (l := l) (i := i) h0; rw [a, b, c]))
  · have g0 := (cnd_or_f cnd_dec_f cnd_dec_f) h0
    refine k_sc (node_c (d) (l) (i)) ?_
    refine k_br (fun h3 => ?_) (fun h3 => ?_)
    · have g3 := (cnd_not_t cnd_id_f) h3
      exact k_out (Ent.of_eq (by obtain ⟨a, b, c⟩ := span_2 h0 h3; rw [a, b, c]))
    · have g3 := (cnd_not_f cnd_id_t) h3
      refine k_req ((span_3 h3).2.2.2) ?_
      exact k_out (Ent.of_eq (by obtain ⟨a, b, c, _⟩ := span_3 h3; rw [a, b, c]))

theorem rplace_c (d l i : Int) : Pure Tryz.prog gl0 86 [.int .i64 d, .int .i64 l, .int .i64 i] (.bool (placeB d l i)) := by
  refine pure_sk (own := ow0) Tryz.func86 (by kernel_rfl) mixed (by kernel_rfl)
    (.req (((decide (l ≥ 0) && decide (l ≤ d) && decide (i ≥ 0)) == true) = true → (0 : Int) ≤ l) (.out (AV.bool (decide (l ≥ 0) && decide (l ≤ d) && decide (i ≥ 0) && decide (i < IntKind.wrap IntKind.i64 ((1 : Int) * 2 ^ min (Int.toNat l) 64)))) [] (AV.bool (placeB d l i)) []))
    (by kernel_rfl) ?_
  refine k_req (fun hr => by have hr := (cnd_eqt_t (cnd_and_t (cnd_and_t cnd_dec_t cnd_dec_t) cnd_dec_t)) hr; omega) ?_
  exact k_out (Ent.refl _)

theorem rnode_c (d l i : Int) : Pure Tryz.prog gl0 22 [.int .i64 d, .agg [.int .i64 l, .int .i64 i]] (.bool (nodeB d l i)) := by
  refine pure_sk (own := ow0) Tryz.func22 (by kernel_rfl) mixed (by kernel_rfl)
    (.sc ((decide (d ≥ 0) && decide (d ≤ 5)) == true) 86 ([Zi d, Zi l, Zi i]) (AV.bool (placeB d l i)) (.out (AV.bool (decide (d ≥ 0) && decide (d ≤ 5) && placeB d l i)) [] (AV.bool (nodeB d l i)) []))
    (by kernel_rfl) ?_
  refine k_scg (fun h0 => rplace_c (d) (l) (i)) ?_
  exact k_out (Ent.of_eq (congrArg _ (place_node d l i)))

theorem context_c (x : Cxt) : Pure Tryz.prog gl0 69 [x.av] (.bool (ctxB x.time x.number)) := by
  refine pure_sk (own := ow0) Tryz.func69 (by kernel_rfl) mixed (by kernel_rfl)
    (.out (AV.bool (decide (x.2 ≥ 0) && decide (x.2 ≤ 1099511627776) && decide (x.3 ≥ 0) && decide (x.3 ≤ 1073741824))) [] (AV.bool (ctxB (Cxt.time x) (Cxt.number x))) [])
    (by kernel_rfl) ?_
  exact k_out (Ent.refl _)

theorem rctx_c (x : Cxt) : Pure Tryz.prog gl0 23 [x.av] (.bool (ctxB x.time x.number)) := by
  refine pure_sk (own := ow0) Tryz.func23 (by kernel_rfl) mixed (by kernel_rfl)
    (.out (AV.bool (decide (x.2 ≥ 0) && decide (x.2 ≤ 1099511627776) && decide (x.3 ≥ 0) && decide (x.3 ≤ 1073741824))) [] (AV.bool (ctxB (Cxt.time x) (Cxt.number x))) [])
    (by kernel_rfl) ?_
  exact k_out (Ent.refl _)

theorem rspan_c (d l i : Int) (h : nodeB d l i = true) : Pure Tryz.prog gl0 63 [.int .i64 d, .agg [.int .i64 l, .int .i64 i]] (.tup [.int .i64 (spanA d l i), .int .i64 (spanZ d l i)]) := by
  refine pure_sk (own := ow0) Tryz.func63 (by kernel_rfl) mixed (by kernel_rfl)
    (let y0 : Nat := (Int.toNat (IntKind.wrap IntKind.u64 (IntKind.wrap IntKind.i64 (d - l)))); (.req ((0 : Int) ≤ IntKind.wrap IntKind.u64 (IntKind.wrap IntKind.i64 (d - l))) (.out (AV.tup [Zi (IntKind.wrap IntKind.i64 (i * IntKind.wrap IntKind.i64 ((1 : Int) * 2 ^ min y0 64))), Zi (IntKind.wrap IntKind.i64 (IntKind.wrap IntKind.i64 (i + 1) * IntKind.wrap IntKind.i64 ((1 : Int) * 2 ^ min y0 64)))]) [] (AV.tup [Zi (spanA d l i), Zi (spanZ d l i)]) [])))
    (by kernel_rfl) ?_
  refine k_req (wU_nonneg _) ?_
  exact k_out (Ent.of_eq (by obtain ⟨a, b⟩ := rspan_m h; rw [a, b]))

theorem cdig_c (c : Coin) (hr : byB c.root 32) : Pure Tryz.prog gl0 147 [c.av] (.agg (u8c c.dig)) := by
  have hi := citem_w c
  have he := encode_c c.it c.it_ok (by rw [c.it_len]; decide)
  have ht := tagged_c "specie/coin-item".toUTF8 (by decide) (by decide) (fun i => c.it.enc.getD i 0) c.it.enc.length (by rw [c.it_len]; decide) (It.enc_by (Coin.it_okB hr))
  refine pure_sk (own := ow0) Tryz.func147 (by kernel_rfl) mixed (by kernel_rfl)
    (.dc (true) 213 ([AV.agg (Coin.cells c)]) (It.av (Coin.it c)) (.dc (true) 136 ([AV.agg [Zi (It.kind (Coin.it c)), Zi (It.num (Coin.it c)), AV.isl 1 0 fun (i x : Nat) => Zb (It.fb (Coin.it c) i), AV.isl 4 3 (It.row (Coin.it c))]]) (AV.tup [il IntKind.u8 (It.enc (Coin.it c)), Zi 0]) (.sc (true) 149 ([AV.str { data := #[(115 : UInt8), (112 : UInt8), (101 : UInt8), (99 : UInt8), (105 : UInt8), (101 : UInt8), (47 : UInt8), (99 : UInt8), (111 : UInt8), (105 : UInt8), (110 : UInt8), (45 : UInt8), (105 : UInt8), (116 : UInt8), (101 : UInt8), (109 : UInt8)] }, AV.isl 1 133 fun (i x : Nat) => Zb (List.getD (It.enc (Coin.it c)) i (0 : Int))]) (AV.tup [AV.agg (u8c (tagF (String.toUTF8 "specie/coin-item") (List.length (It.enc (Coin.it c))) fun (i : Nat) => List.getD (It.enc (Coin.it c)) i (0 : Int))), Zi 0]) (.out (AV.agg (u8c (tagF (String.toUTF8 "specie/coin-item") 133 fun (i : Nat) => List.getD (It.enc (Coin.it c)) i (0 : Int)))) [] (AV.agg (u8c (Coin.dig c))) []))))
    (by kernel_rfl) ?_
  refine k_dc (hi) ?_
  refine k_dc (he) ?_
  refine k_sc (ht) ?_
  exact k_out (Ent.refl _)

theorem rcdig_c (c : Coin) (hr : byB c.root 32) : Pure Tryz.prog gl0 120 [c.av] (.agg (u8c c.dig)) := by
  have hi := ritem_w c
  have he := renc_c c.it (by rw [c.it_len]; decide)
  have ht := rtagged_c "specie/coin-item".toUTF8 (by decide) (fun i => c.it.enc.getD i 0) c.it.enc.length (by rw [c.it_len]; decide) (It.enc_by (Coin.it_okB hr))
  refine pure_sk (own := ow0) Tryz.func120 (by kernel_rfl) mixed (by kernel_rfl)
    (.dc (true) 190 ([AV.agg (Coin.cells c)]) (It.av (Coin.it c)) (.dc (true) 124 ([AV.agg [Zi (It.kind (Coin.it c)), Zi (It.num (Coin.it c)), AV.isl 1 0 fun (i x : Nat) => Zb (It.fb (Coin.it c) i), AV.isl 4 3 (It.row (Coin.it c))]]) (il IntKind.u8 (It.enc (Coin.it c))) (.sc (true) 123 ([AV.str { data := #[(115 : UInt8), (112 : UInt8), (101 : UInt8), (99 : UInt8), (105 : UInt8), (101 : UInt8), (47 : UInt8), (99 : UInt8), (111 : UInt8), (105 : UInt8), (110 : UInt8), (45 : UInt8), (105 : UInt8), (116 : UInt8), (101 : UInt8), (109 : UInt8)] }, AV.isl 1 133 fun (i x : Nat) => Zb (List.getD (It.enc (Coin.it c)) i (0 : Int))]) (AV.agg (u8c (tagF (String.toUTF8 "specie/coin-item") (List.length (It.enc (Coin.it c))) fun (i : Nat) => List.getD (It.enc (Coin.it c)) i (0 : Int)))) (.out (AV.agg (u8c (tagF (String.toUTF8 "specie/coin-item") 133 fun (i : Nat) => List.getD (It.enc (Coin.it c)) i (0 : Int)))) [] (AV.agg (u8c (Coin.dig c))) []))))
    (by kernel_rfl) ?_
  refine k_dc (hi) ?_
  refine k_dc (he) ?_
  refine k_sc (ht) ?_
  exact k_out (Ent.refl _)

theorem list4 (a b c d : It) : Pure Tryz.prog gl0 145 [.isl 4 4 fun r k => atL (List.getD [a.cells, b.cells, c.cells, d.cells] r []) k] (lsI [a, b, c, d]).av :=
  (list_c 4 _).ent (li4_out (EntL.refl _) (EntL.refl _) (EntL.refl _) (EntL.refl _))

theorem rlist_c (n : Nat) (f : Nat → Nat → AV) : Pure Tryz.prog gl0 125 [.isl 4 n f] (.agg [.int .i64 3, .int .i64 0, .nsl, .isl 4 n f]) := by
  refine pure_sk (own := ow0) Tryz.func125 (by kernel_rfl) mixed (by kernel_rfl)
    (let y0 : AV := (AV.agg [Zi 3, Zi 0, AV.nsl, AV.isl 4 n f]); (.out y0 [] y0 []))
    (by kernel_rfl) ?_
  exact k_out (Ent.refl _)

theorem rlist4 (a b c d : It) : Pure Tryz.prog gl0 125 [.isl 4 4 fun r k => atL (List.getD [a.cells, b.cells, c.cells, d.cells] r []) k] (lsI [a, b, c, d]).av :=
  (rlist_c 4 _).ent (li4_out (EntL.refl _) (EntL.refl _) (EntL.refl _) (EntL.refl _))

theorem chal_c (b : Bas) (c : Coin) (l i : Int) (x : Cxt) (hr : byB c.root 32) (hp : byB x.payee 32) (hq : 0 < b.gr.q) (hq' : b.gr.q < 2305843009213693952) : Pure Tryz.prog gl0 70 [b.av, c.av, .agg [.int .i64 l, .int .i64 i], x.av] (.int .i64 (chalN b.gr.q c l i x)) := by
  have hd := cdig_c c hr
  have hb := bytes_c c.dig
  have hb2 := bytes_c x.payee
  have hi := ints_2 l i
  have hi2 := ints_2 x.time x.number
  have hl := list4 (.byt 32 c.dig) (intsI [l, i]) (.byt 32 x.payee) (intsI [x.time, x.number])
  have he := encode_c (chalI c l i x) (chal_ok c l i x) (by rw [chal_len]; decide)
  have ht := tagged_c "specie/spend".toUTF8 (by decide) (by decide) (fun k => (chalI c l i x).enc.getD k 0) (chalI c l i x).enc.length (by rw [chal_len]; decide) (It.enc_by (chal_okB hp))
  have hn := number_c (tagI "specie/spend".toUTF8 (chalI c l i x)) b.gr.q hq hq' (tagI_by _ _ _)
  refine pure_sk (own := ow0) Tryz.func70 (by kernel_rfl) mixed (by kernel_rfl)
    (.sc (true) 147 ([AV.agg (Coin.cells c)]) (AV.agg (u8c (Coin.dig c))) (.dc (true) 146 ([AV.agg (u8c (Coin.dig c))]) (It.av (It.byt 32 (Coin.dig c))) (.dc (true) 148 ([AV.isl 1 2 fun (r k : Nat) => atL (List.getD [[Zi l], [Zi i]] (r + 0) []) k]) (It.av (intsI [l, i])) (.dc (true) 146 ([AV.agg (u8c x.1)]) (It.av (It.byt 32 (Cxt.payee x))) (.dc (true) 148 ([AV.isl 1 2 fun (r k : Nat) => atL (List.getD [[Zi x.2], [Zi x.3]] (r + 0) []) k]) (It.av (intsI [Cxt.time x, Cxt.number x])) (.dc (true) 145 ([AV.isl 4 4 fun (r k : Nat) => atL (List.getD [[Zi (It.kind (It.byt 32 (Coin.dig c))), Zi (It.num (It.byt 32 (Coin.dig c))), AV.isl 1 32 fun (i x : Nat) => Zb (It.fb (It.byt 32 (Coin.dig c)) i), AV.isl 4 0 (It.row (It.byt 32 (Coin.dig c)))], [Zi (It.kind (intsI [l, i])), Zi (It.num (intsI [l, i])), AV.isl 1 0 fun (i_1 x : Nat) => Zb (It.fb (intsI [l, i]) i_1), AV.isl 4 2 (It.row (intsI [l, i]))], [Zi (It.kind (It.byt 32 x.1)), Zi (It.num (It.byt 32 x.1)), AV.isl 1 32 fun (i x_1 : Nat) => Zb (It.fb (It.byt 32 x.1) i), AV.isl 4 0 (It.row (It.byt 32 x.1))], [Zi (It.kind (intsI [x.2, x.3])), Zi (It.num (intsI [x.2, x.3])), AV.isl 1 0 fun (i x_1 : Nat) => Zb (It.fb (intsI [x.2, x.3]) i), AV.isl 4 2 (It.row (intsI [x.2, x.3]))]] (r + 0) []) k]) (It.av (lsI [It.byt 32 (Coin.dig c), intsI [l, i], It.byt 32 (Cxt.payee x), intsI [Cxt.time x, Cxt.number x]])) (.dc (true) 136 ([AV.agg [Zi (It.kind (lsI [It.byt 32 (Coin.dig c), intsI [l, i], It.byt 32 x.1, intsI [x.2, x.3]])), Zi (It.num (lsI [It.byt 32 (Coin.dig c), intsI [l, i], It.byt 32 x.1, intsI [x.2, x.3]])), AV.isl 1 0 fun (i_1 x_1 : Nat) => Zb (It.fb (lsI [It.byt 32 (Coin.dig c), intsI [l, i], It.byt 32 x.1, intsI [x.2, x.3]]) i_1), AV.isl 4 4 (It.row (lsI [It.byt 32 (Coin.dig c), intsI [l, i], It.byt 32 x.1, intsI [x.2, x.3]]))]]) (AV.tup [il IntKind.u8 (It.enc (chalI c l i x)), Zi 0]) (.sc (true) 149 ([AV.str { data := #[(115 : UInt8), (112 : UInt8), (101 : UInt8), (99 : UInt8), (105 : UInt8), (101 : UInt8), (47 : UInt8), (115 : UInt8), (112 : UInt8), (101 : UInt8), (110 : UInt8), (100 : UInt8)] }, AV.isl 1 125 fun (i_1 x_1 : Nat) => Zb (List.getD (It.enc (chalI c l i x)) i_1 (0 : Int))]) (AV.tup [AV.agg (u8c (tagF (String.toUTF8 "specie/spend") (List.length (It.enc (chalI c l i x))) fun (k : Nat) => List.getD (It.enc (chalI c l i x)) k (0 : Int))), Zi 0]) (.sc (true) 150 ([AV.agg (u8c (tagF (String.toUTF8 "specie/spend") 125 fun (k : Nat) => List.getD (It.enc (chalI c l i x)) k (0 : Int))), Zi (Bas.gr b).2]) (AV.tup [Zi (numF (tagI (String.toUTF8 "specie/spend") (chalI c l i x)) (Grp.q (Bas.gr b)) 16), Zi 0]) (.out (Zi (numF (tagI (String.toUTF8 "specie/spend") (chalI c l i x)) (Bas.gr b).2 16)) [] (Zi (chalN (Grp.q (Bas.gr b)) c l i x)) []))))))))))
    (by kernel_rfl) ?_
  refine k_sc (hd) ?_
  refine k_dc (hb) ?_
  refine k_dc (hi) ?_
  refine k_dc (hb2) ?_
  refine k_dc (hi2) ?_
  refine k_dc (hl) ?_
  refine k_dc (he) ?_
  refine k_sc (ht) ?_
  refine k_sc (hn) ?_
  exact k_out (Ent.refl _)

theorem rchal_c (b : Bas) (c : Coin) (l i : Int) (x : Cxt) (hr : byB c.root 32) (hp : byB x.payee 32) (hq : 0 < b.gr.q) (hq' : b.gr.q < 2305843009213693952) : Pure Tryz.prog gl0 47 [b.av, c.av, .agg [.int .i64 l, .int .i64 i], x.av] (.int .i64 (chalN b.gr.q c l i x)) := by
  have hd := rcdig_c c hr
  have hb := rbytes31_c c.dig
  have hb2 := rbytes31_c x.payee
  have hi := rints_2 l i
  have hi2 := rints_2 x.time x.number
  have hl := rlist4 (.byt 32 c.dig) (intsI [l, i]) (.byt 32 x.payee) (intsI [x.time, x.number])
  have he := renc_c (chalI c l i x) (by rw [chal_len]; decide)
  have ht := rtagged_c "specie/spend".toUTF8 (by decide) (fun k => (chalI c l i x).enc.getD k 0) (chalI c l i x).enc.length (by rw [chal_len]; decide) (It.enc_by (chal_okB hp))
  have hn := rnumber_c (tagI "specie/spend".toUTF8 (chalI c l i x)) b.gr.q hq hq' (tagI_by _ _ _)
  refine pure_sk (own := ow0) Tryz.func47 (by kernel_rfl) mixed (by kernel_rfl)
    (.sc (true) 120 ([AV.agg (Coin.cells c)]) (AV.agg (u8c (Coin.dig c))) (.dc (true) 119 ([AV.agg (u8c (Coin.dig c))]) (It.av (It.byt 32 (Coin.dig c))) (.dc (true) 121 ([AV.isl 1 2 fun (r k : Nat) => atL (List.getD [[Zi l], [Zi i]] (r + 0) []) k]) (It.av (intsI [l, i])) (.dc (true) 119 ([AV.agg (u8c x.1)]) (It.av (It.byt 32 (Cxt.payee x))) (.dc (true) 121 ([AV.isl 1 2 fun (r k : Nat) => atL (List.getD [[Zi x.2], [Zi x.3]] (r + 0) []) k]) (It.av (intsI [Cxt.time x, Cxt.number x])) (.dc (true) 125 ([AV.isl 4 4 fun (r k : Nat) => atL (List.getD [[Zi (It.kind (It.byt 32 (Coin.dig c))), Zi (It.num (It.byt 32 (Coin.dig c))), AV.isl 1 32 fun (i x : Nat) => Zb (It.fb (It.byt 32 (Coin.dig c)) i), AV.isl 4 0 (It.row (It.byt 32 (Coin.dig c)))], [Zi (It.kind (intsI [l, i])), Zi (It.num (intsI [l, i])), AV.isl 1 0 fun (i_1 x : Nat) => Zb (It.fb (intsI [l, i]) i_1), AV.isl 4 2 (It.row (intsI [l, i]))], [Zi (It.kind (It.byt 32 x.1)), Zi (It.num (It.byt 32 x.1)), AV.isl 1 32 fun (i x_1 : Nat) => Zb (It.fb (It.byt 32 x.1) i), AV.isl 4 0 (It.row (It.byt 32 x.1))], [Zi (It.kind (intsI [x.2, x.3])), Zi (It.num (intsI [x.2, x.3])), AV.isl 1 0 fun (i x_1 : Nat) => Zb (It.fb (intsI [x.2, x.3]) i), AV.isl 4 2 (It.row (intsI [x.2, x.3]))]] (r + 0) []) k]) (It.av (lsI [It.byt 32 (Coin.dig c), intsI [l, i], It.byt 32 (Cxt.payee x), intsI [Cxt.time x, Cxt.number x]])) (.dc (true) 124 ([AV.agg [Zi (It.kind (lsI [It.byt 32 (Coin.dig c), intsI [l, i], It.byt 32 x.1, intsI [x.2, x.3]])), Zi (It.num (lsI [It.byt 32 (Coin.dig c), intsI [l, i], It.byt 32 x.1, intsI [x.2, x.3]])), AV.isl 1 0 fun (i_1 x_1 : Nat) => Zb (It.fb (lsI [It.byt 32 (Coin.dig c), intsI [l, i], It.byt 32 x.1, intsI [x.2, x.3]]) i_1), AV.isl 4 4 (It.row (lsI [It.byt 32 (Coin.dig c), intsI [l, i], It.byt 32 x.1, intsI [x.2, x.3]]))]]) (il IntKind.u8 (It.enc (chalI c l i x))) (.sc (true) 123 ([AV.str { data := #[(115 : UInt8), (112 : UInt8), (101 : UInt8), (99 : UInt8), (105 : UInt8), (101 : UInt8), (47 : UInt8), (115 : UInt8), (112 : UInt8), (101 : UInt8), (110 : UInt8), (100 : UInt8)] }, AV.isl 1 125 fun (i_1 x_1 : Nat) => Zb (List.getD (It.enc (chalI c l i x)) i_1 (0 : Int))]) (AV.agg (u8c (tagF (String.toUTF8 "specie/spend") (List.length (It.enc (chalI c l i x))) fun (k : Nat) => List.getD (It.enc (chalI c l i x)) k (0 : Int)))) (.sc (true) 122 ([AV.agg (u8c (tagF (String.toUTF8 "specie/spend") 125 fun (k : Nat) => List.getD (It.enc (chalI c l i x)) k (0 : Int))), Zi (Bas.gr b).2]) (Zi (numF (tagI (String.toUTF8 "specie/spend") (chalI c l i x)) (Grp.q (Bas.gr b)) 16)) (.out (Zi (numF (tagI (String.toUTF8 "specie/spend") (chalI c l i x)) (Bas.gr b).2 16)) [] (Zi (chalN (Grp.q (Bas.gr b)) c l i x)) []))))))))))
    (by kernel_rfl) ?_
  refine k_sc (hd) ?_
  refine k_dc (hb) ?_
  refine k_dc (hi) ?_
  refine k_dc (hb2) ?_
  refine k_dc (hi2) ?_
  refine k_dc (hl) ?_
  refine k_dc (he) ?_
  refine k_sc (ht) ?_
  refine k_sc (hn) ?_
  exact k_out (Ent.refl _)

end Go.Proofs.YtdaaddkipdmajaaGreatDoor

namespace Go.Sp
open Go Go.Am

theorem inv_uniq {a m x y : Int} (hx : 0 ≤ x ∧ x < m) (hy : 0 ≤ y ∧ y < m) (h1 : m ∣ a * x - 1) (h2 : m ∣ a * y - 1) : x = y := by
  have h : m ∣ x - y := by
    obtain ⟨k, hk⟩ := h1
    obtain ⟨j, hj⟩ := h2
    refine ⟨x * j * (-1) + y * k, ?_⟩
    have e1 : a * x * y = (1 + m * k) * y := by rw [← hk]; grind
    have e2 : a * y * x = (1 + m * j) * x := by rw [← hj]; grind
    grind
  have e := Int.emod_eq_emod_iff_emod_sub_eq_zero.2 (Int.emod_eq_zero_of_dvd h)
  rwa [Int.emod_eq_of_lt hx.1 hx.2, Int.emod_eq_of_lt hy.1 hy.2] at e

open Classical in
noncomputable def invF (a m : Int) : Int := if h : ∃ x, (0 ≤ x ∧ x < m) ∧ m ∣ a * x - 1 then Classical.choose h else 0
theorem invF_eq {a m x : Int} (hx : 0 ≤ x ∧ x < m) (h : m ∣ a * x - 1) : invF a m = x := by
  have hh : ∃ x, (0 ≤ x ∧ x < m) ∧ m ∣ a * x - 1 := ⟨x, hx, h⟩
  unfold invF
  rw [dif_pos hh]
  exact inv_uniq (Classical.choose_spec hh).1 hx (Classical.choose_spec hh).2 h
theorem invF_none {a m : Int} (h : Int.gcd a m ≠ 1) : invF a m = 0 := by
  unfold invF
  refine dif_neg ?_
  rintro ⟨x, _, k, hk⟩
  apply h
  have h1 : ((Int.gcd a m : Nat) : Int) ∣ 1 := by
    obtain ⟨p, hp⟩ := Int.gcd_dvd_left (a := a) (b := m)
    obtain ⟨q, hq⟩ := Int.gcd_dvd_right (a := a) (b := m)
    refine ⟨p * x - q * k, ?_⟩
    have e : a * x - m * k = 1 := by omega
    generalize (Int.gcd a m : Int) = g at *
    rw [hp, hq] at e
    grind
  have := Int.le_of_dvd (by decide) h1
  have h0 : Int.gcd a m ≠ 0 := fun h0 => by rw [h0] at h1; simp at h1
  omega
theorem invF_bound {a m : Int} (hm : 0 < m) : 0 ≤ invF a m ∧ invF a m < m := by
  unfold invF
  split
  · rename_i h
    exact (Classical.choose_spec h).1
  · omega

structure EgI (a0 m d a x n : Int) : Prop where
  an : 0 ≤ a
  ad : a < d
  d1 : d ≤ m
  sg : ∃ u v : Int, 0 ≤ u ∧ u ≤ m ∧ 0 ≤ v ∧ v ≤ m ∧ (x = -u ∧ n = v ∨ x = u ∧ n = -v) ∧ v * d + u * a = m
  c1 : m ∣ a0 * x - d
  c2 : m ∣ a0 * n - a
  g : Int.gcd d a = Int.gcd a0 m
theorem EgI.start {a m : Int} (h0 : 0 ≤ a) (h1 : a < m) : EgI a m m a 0 1 where
  an := h0
  ad := h1
  d1 := Int.le_refl _
  sg := ⟨0, 1, by omega, by omega, by omega, by omega, Or.inl ⟨rfl, rfl⟩, by omega⟩
  c1 := ⟨-1, by omega⟩
  c2 := ⟨0, by omega⟩
  g := Int.gcd_comm _ _
theorem EgI.nxt {a0 m d a x n : Int} (h : EgI a0 m d a x n) (ha : a ≠ 0) : EgI a0 m a (d % a) n (x - d / a * n) ∧ 0 ≤ d / a ∧ d / a * a ≤ d ∧ -m ≤ d / a * n ∧ d / a * n ≤ m ∧ -m ≤ n ∧ n ≤ m ∧ d - d / a * a = d % a := by
  have p : 0 < a := by have := h.an; omega
  have q0 : 0 ≤ d / a := Int.ediv_nonneg (by have := h.ad; omega) (by omega)
  have e := Int.mul_ediv_add_emod d a
  have r0 := Int.emod_nonneg d ha
  have r1 := Int.emod_lt_of_pos d p
  have hd := h.ad
  have hm := h.d1
  obtain ⟨u, v, u0, u1, v0, v1, hs, hv⟩ := h.sg
  generalize d / a = q at *
  generalize hr : d % a = r at *
  have qv : 0 ≤ q * v := Int.mul_nonneg q0 v0
  have hv' : (u + q * v) * a + v * r = m := by rw [← hv, ← e]; grind
  have vr : 0 ≤ v * r := Int.mul_nonneg v0 r0
  have t0 : 0 ≤ u + q * v := by omega
  have t1 : u + q * v ≤ m := by
    have : (u + q * v) * 1 ≤ (u + q * v) * a := Int.mul_le_mul_of_nonneg_left (by omega) t0
    omega
  refine ⟨⟨r0, r1, by omega, ⟨v, u + q * v, v0, v1, t0, t1, ?_, hv'⟩, h.c2, ?_, ?_⟩, q0, by rw [Int.mul_comm]; omega, ?_, ?_, ?_, ?_, by rw [Int.mul_comm]; omega⟩
  · rcases hs with ⟨rfl, rfl⟩ | ⟨rfl, rfl⟩
    · exact Or.inr ⟨rfl, by omega⟩
    · refine Or.inl ⟨rfl, ?_⟩
      rw [Int.mul_neg]; omega
  · obtain ⟨k, hk⟩ := h.c1
    obtain ⟨j, hj⟩ := h.c2
    refine ⟨k - q * j, ?_⟩
    have : a0 * (x - q * n) - r = (a0 * x - d) - q * (a0 * n - a) + (d - a * q - r) := by grind
    rw [this, hk, hj, show d - a * q - r = 0 by omega]
    grind
  · rw [← h.g, Int.gcd_comm d a, show r = d - a * q by omega]
    exact Int.gcd_sub_mul_left_right _ _ _
  · rcases hs with ⟨_, rfl⟩ | ⟨_, rfl⟩
    · omega
    · rw [Int.mul_neg]; omega
  · rcases hs with ⟨_, rfl⟩ | ⟨_, rfl⟩
    · omega
    · rw [Int.mul_neg]; omega
  · omega
  · omega
def eg (d a x n : Int) : Int × Int := if 0 < a then eg a (d % a) n (x - d / a * n) else (d, x)
termination_by a.toNat
decreasing_by have := Int.emod_lt_of_pos d (by assumption : 0 < a); have := Int.emod_nonneg d (by omega : a ≠ 0); omega
theorem eg_step {d a x n : Int} (h : 0 < a) : eg d a x n = eg a (d % a) n (x - d / a * n) := by
  rw [eg, if_pos h]
theorem eg_end {d a x n : Int} (h : ¬ 0 < a) : eg d a x n = (d, x) := by
  rw [eg, if_neg h]
def EgW (a m : Int) (s : Int × Int × Int × Int) : Prop := EgI a m s.1 s.2.1 s.2.2.1 s.2.2.2 ∧ eg s.1 s.2.1 s.2.2.1 s.2.2.2 = eg m a 0 1
theorem EgW.start {a m : Int} (h0 : 0 ≤ a) (h1 : a < m) : EgW a m (m, a, 0, 1) := ⟨.start h0 h1, rfl⟩
theorem EgW.step {a0 m d a x n : Int} (h : EgW a0 m (d, a, x, n)) (ha : a ≠ 0) : EgW a0 m (a, d % a, n, x - d / a * n) :=
  ⟨(h.1.nxt ha).1, (eg_step (by have := h.1.an; dsimp only at this; omega)).symm.trans h.2⟩
def egX (a m : Int) : Int := let x := (eg m a 0 1).2; (if x < 0 then x + m else x) % m
theorem EgW.fin {a0 m d a x n : Int} (h : EgW a0 m (d, a, x, n)) (ha : a = 0) : d = Int.gcd a0 m ∧ eg m a0 0 1 = (d, x) ∧ -m ≤ x ∧ x ≤ m := by
  subst ha
  obtain ⟨h1, h2⟩ := h
  dsimp only at h1 h2
  refine ⟨?_, by rw [← h2]; exact eg_end (by omega), ?_⟩
  · rw [← h1.g, Int.gcd_zero_right]
    have := h1.ad
    omega
  · obtain ⟨u, v, u0, u1, v0, v1, hs, hv⟩ := h1.sg
    omega
theorem EgW.all {a0 m : Int} : ∀ (k : Nat) (s : Int × Int × Int × Int), s.2.1.toNat ≤ k → EgW a0 m s → ∃ d x n, EgW a0 m (d, 0, x, n)
  | k, (d, a, x, n), hk, h => by
    by_cases ha : a = 0
    · subst ha; exact ⟨d, x, n, h⟩
    · have h0 := h.1.an
      dsimp only at h0 hk
      cases k with
      | zero => omega
      | succ k =>
        have := Int.emod_lt_of_pos d (show 0 < a by omega)
        have := Int.emod_nonneg d ha
        exact EgW.all k _ (by dsimp only; omega) (h.step ha)
theorem egX_inv {a m : Int} (h0 : 0 ≤ a) (h1 : a < m) : (0 ≤ egX a m ∧ egX a m < m) ∧ (Int.gcd a m = 1 → egX a m = invF a m) := by
  obtain ⟨d, x, n, h⟩ := EgW.all _ _ (Nat.le_refl _) (EgW.start h0 h1)
  obtain ⟨hd, he, -, -⟩ := h.fin rfl
  have hb : 0 ≤ egX a m ∧ egX a m < m := ⟨Int.emod_nonneg _ (by omega), Int.emod_lt_of_pos _ (by omega)⟩
  refine ⟨hb, fun hg => (invF_eq hb ?_).symm⟩
  have c1 := h.1.c1
  dsimp only at c1
  rw [hd, hg] at c1
  unfold egX
  rw [he]
  dsimp only
  obtain ⟨k, hk⟩ := c1
  have e2 : ∀ y : Int, a * (y % m) - 1 = (a * y - 1) - m * (a * (y / m)) := fun y => by
    have := Int.mul_ediv_add_emod y m
    generalize y / m = q at *
    generalize y % m = r at *
    rw [← this]; grind
  split
  · rw [e2]
    refine ⟨k + a - a * ((x + m) / m), ?_⟩
    have : a * (x + m) - 1 = m * k + m * a := by
      have : a * x - 1 = m * k := hk
      grind
    rw [this]; grind
  · rw [e2]
    refine ⟨k - a * (x / m), ?_⟩
    rw [show a * x - 1 = m * k from hk]; grind

structure RgI (a0 m u v x y : Int) : Prop where
  u0 : 0 ≤ u
  u1 : u ≤ m
  v0 : 0 ≤ v
  v1 : v ≤ m
  x0 : 0 ≤ x
  x1 : x < m
  y0 : 0 ≤ y
  y1 : y < m
  c1 : m ∣ a0 * x - u
  c2 : m ∣ a0 * y - v
  g : Int.gcd u v = Int.gcd a0 m
theorem RgI.start {a m : Int} (h0 : 0 ≤ a) (h1 : a < m) : RgI a m a m (1 % m) 0 where
  u0 := h0
  u1 := by omega
  v0 := by omega
  v1 := by omega
  x0 := Int.emod_nonneg _ (by omega)
  x1 := Int.emod_lt_of_pos _ (by omega)
  y0 := by omega
  y1 := by omega
  c1 := by
    have e := Int.mul_ediv_add_emod 1 m
    refine ⟨-(a * (1 / m)), ?_⟩
    generalize 1 / m = q at *
    generalize 1 % m = r at *
    have : a * (m * q + r) = a := by rw [e, Int.mul_one]
    grind
  c2 := ⟨-1, by omega⟩
  g := rfl
theorem RgI.nxt {a0 m u v x y : Int} (h : RgI a0 m u v x y) (hv : v ≠ 0) : RgI a0 m v (u % v) y ((x - u / v % m * y % m) % m) ∧ 0 ≤ u / v ∧ u / v ≤ m ∧ u / v * v ≤ u ∧ 0 ≤ u / v * v ∧ u - u / v * v = u % v := by
  have p : 0 < v := by have := h.v0; omega
  have hm : 0 < m := by have := h.v1; omega
  have q0 : 0 ≤ u / v := Int.ediv_nonneg h.u0 (by omega)
  have e := Int.mul_ediv_add_emod u v
  have r0 := Int.emod_nonneg u hv
  have r1 := Int.emod_lt_of_pos u p
  have hu := h.u0
  have hu1 := h.u1
  have hv1 := h.v1
  have qv : u / v * v ≤ u := by rw [Int.mul_comm]; omega
  have q1 : u / v ≤ m := by
    have : u / v * 1 ≤ u / v * v := Int.mul_le_mul_of_nonneg_left (by omega) q0
    omega
  refine ⟨⟨by omega, by omega, r0, by omega, h.y0, h.y1, Int.emod_nonneg _ (by omega), Int.emod_lt_of_pos _ hm, h.c2, ?_, ?_⟩, q0, q1, qv, Int.mul_nonneg q0 (by omega), by rw [Int.mul_comm]; omega⟩
  · obtain ⟨k, hk⟩ := h.c1
    obtain ⟨j, hj⟩ := h.c2
    have e1 := Int.mul_ediv_add_emod (u / v) m
    have e2 := Int.mul_ediv_add_emod (u / v % m * y) m
    have e3 := Int.mul_ediv_add_emod (x - u / v % m * y % m) m
    generalize (x - u / v % m * y % m) % m = z at *
    generalize (x - u / v % m * y % m) / m = z' at *
    generalize u / v % m * y % m = w at *
    generalize u / v % m * y / m = w' at *
    generalize u / v % m = qm at *
    generalize u / v / m = qm' at *
    generalize u / v = q at *
    generalize u % v = r at *
    refine ⟨k - q * j + a0 * (qm' * y + w' - z'), ?_⟩
    have f1 : z = x - w - m * z' := by omega
    have f2 : w = qm * y - m * w' := by omega
    have f3 : qm = q - m * qm' := by omega
    have f4 : r = u - v * q := by omega
    subst f1; subst f2; subst f3; subst f4
    have g1 : a0 * x = u + m * k := by omega
    have g2 : a0 * y = v + m * j := by omega
    grind
  · rw [← h.g, Int.gcd_comm u v, show u % v = u - v * (u / v) by omega]
    exact Int.gcd_sub_mul_left_right _ _ _
theorem RgI.fin {a0 m u x y : Int} (h : RgI a0 m u 0 x y) (hg : Int.gcd a0 m = 1) : x = invF a0 m := by
  have hu : u = 1 := by
    have := h.g
    have h0 := h.u0
    rw [Int.gcd_zero_right, hg] at this
    omega
  exact (invF_eq ⟨h.x0, h.x1⟩ (hu ▸ h.c1)).symm

theorem EgI.w {a0 m d a x n : Int} (h : EgI a0 m d a x n) (ha : a ≠ 0) (hm : m < 2305843009213693952) :
    IntKind.wrap .i64 (d - IntKind.wrap .i64 (IntKind.wrap .i64 (Int.tdiv d a) * a)) = d % a ∧ IntKind.wrap .i64 (x - IntKind.wrap .i64 (IntKind.wrap .i64 (Int.tdiv d a) * n)) = x - d / a * n ∧ d % a < a ∧ 0 ≤ d % a := by
  obtain ⟨h1, q0, q1, n0, n1, n2, n3, e⟩ := h.nxt ha
  have hd := h.ad; have hm1 := h.d1; have h0 := h.an
  have r0 := h1.an; have r1 := h1.ad
  have qd : d / a ≤ d := by
    have : d / a * 1 ≤ d / a * a := Int.mul_le_mul_of_nonneg_left (by omega) q0
    omega
  have e1 : IntKind.wrap .i64 (Int.tdiv d a) = d / a := by
    rw [Int.tdiv_eq_ediv_of_nonneg (by omega), wI (by omega) (by omega)]
  have e2 : IntKind.wrap .i64 (d / a * a) = d / a * a := wI (by have := Int.mul_nonneg q0 h0; omega) (by omega)
  obtain ⟨u, v, u0, u1, v0, v1, hs, hv⟩ := h1.sg
  rw [e1, e2, wI (n := d - d / a * a) (by omega) (by omega), wI (n := d / a * n) (by omega) (by omega), wI (n := x - d / a * n) (by omega) (by omega)]
  exact ⟨e, rfl, r1, r0⟩
theorem EgW.out {a0 m : Int} {s : Int × Int × Int × Int} (h : EgW a0 m s) (ha : s.2.1 = 0) (hm : m < 2305843009213693952) :
    s.1 = Int.gcd a0 m ∧ (s.2.2.1 < 0 → Int.tmod (IntKind.wrap .i64 (s.2.2.1 + m)) m = egX a0 m) ∧ (¬ s.2.2.1 < 0 → Int.tmod s.2.2.1 m = egX a0 m) ∧ 0 < m := by
  obtain ⟨d, a, x, n⟩ := s
  obtain ⟨h1, h2, h3, h4⟩ := EgW.fin h ha
  have h5 := h.1.d1; have h6 := h.1.ad; have h7 := h.1.an
  dsimp only at *
  refine ⟨h1, fun hx => ?_, fun hx => ?_, by omega⟩
  · rw [wI (by omega) (by omega), tmod_nn (by omega)]
    unfold egX
    rw [h2]
    dsimp only
    rw [if_pos hx]
  · rw [tmod_nn (by omega)]
    unfold egX
    rw [h2]
    dsimp only
    rw [if_neg hx]
theorem RgI.w {a0 m u v x y : Int} (h : RgI a0 m u v x y) (hv : v ≠ 0) (hm : m < 2305843009213693952) :
    IntKind.wrap .i64 (Int.tdiv u v) = u / v ∧ IntKind.wrap .i64 (u - IntKind.wrap .i64 (IntKind.wrap .i64 (Int.tdiv u v) * v)) = u % v ∧ u % v < v ∧ 0 ≤ u % v ∧ 0 < m ∧ 0 ≤ u / v % m ∧ u / v % m < m ∧ IntKind.wrap .i64 (x - u / v % m * y % m) = x - u / v % m * y % m := by
  obtain ⟨h1, q0, q1, n0, n1, e⟩ := h.nxt hv
  have b1 := h.u0; have b2 := h.u1; have b3 := h.v0; have b4 := h.v1; have b5 := h.x0; have b6 := h.x1
  have r0 := Int.emod_nonneg u hv
  have r1 := Int.emod_lt_of_pos u (show 0 < v by omega)
  have m0 : 0 < m := by omega
  have e1 : IntKind.wrap .i64 (Int.tdiv u v) = u / v := by
    rw [Int.tdiv_eq_ediv_of_nonneg (by omega), wI (by omega) (by omega)]
  have c0 := Int.emod_nonneg (u / v % m * y) (show m ≠ 0 by omega)
  have c1 := Int.emod_lt_of_pos (u / v % m * y) m0
  refine ⟨e1, ?_, r1, r0, m0, Int.emod_nonneg _ (by omega), Int.emod_lt_of_pos _ m0, wI (by omega) (by omega)⟩
  rw [e1, wI (n := u / v * v) (by omega) (by omega), wI (by omega) (by omega)]
  exact e
theorem gcd_next (a b : Int) : Int.gcd b (a % b) = Int.gcd a b := by
  rw [Int.gcd_comm a b, Int.emod_def]
  exact Int.gcd_sub_mul_left_right _ _ _
theorem gcd_last {x y : Int} {g : Nat} (hx : 0 ≤ x) (hy : y = 0) (h : Int.gcd x y = g) : x = g := by
  subst hy
  rw [Int.gcd_zero_right] at h
  omega
theorem chk_zero {a m : Int} (h0 : 0 ≤ a) (h1 : a < m) (hm : m < 2305843009213693952) : chkI a a m = 0 := by
  unfold chkI
  first | (simp; omega) | grind
end Go.Sp

namespace Go.Proofs.YtdaaddkipdmajaaGreatDoor
open Go Go.Am Go.Sp
set_option maxRecDepth 100000

theorem euclid_c (a m : Int) (h0 : 0 ≤ a) (h1 : a < m) (hm : m < 2305843009213693952) : Pure Tryz.prog gl0 186 [.int .i64 a, .int .i64 m] (.tup [.int .i64 (Int.gcd a m : Nat), .int .i64 (egX a m)]) := by
  refine pure_sk (own := ow0) Tryz.func186 (by kernel_rfl) mixed (by kernel_rfl)
    (let y0 : AV := (AV.tup [Zi (↑(Int.gcd a m) : Int), Zi (egX a m)]); (.loop ({ x : Int × Int × Int × Int // (fun (s : Int × Int × Int × Int) => EgW a m s) x }) (fun (x : { x : Int × Int × Int × Int // (fun (s : Int × Int × Int × Int) => EgW a m s) x }) => mkSt [1, 4, 0, 5, 6] [Zi m, Zi (Prod.fst (x.1)), Zi (Prod.fst (Prod.snd (x.1))), Zi (Prod.fst (Prod.snd (Prod.snd (x.1)))), Zi (Prod.snd (Prod.snd (Prod.snd (x.1))))] []) (fun (x : { x : Int × Int × Int × Int // (fun (s : Int × Int × Int × Int) => EgW a m s) x }) => (fun (s : Int × Int × Int × Int) => Int.toNat (Prod.fst (Prod.snd s))) (x.1)) (⟨(m, a, (0 : Int), (1 : Int)), EgW.start h0 h1⟩) ([1, 4, 0, 5, 6]) ([]) ([Zi m, Zi m, Zi a, Zi 0, Zi 1]) ([]) (fun x0 => (.br ((Prod.snd (x0.1)).1 != 0) (.req ((Prod.snd (x0.1)).1 ≠ (0 : Int)) (.again (Again 0 (fun (x : { x : Int × Int × Int × Int // (fun (s : Int × Int × Int × Int) => EgW a m s) x }) => mkSt [1, 4, 0, 5, 6] [Zi m, Zi (Prod.fst (x.1)), Zi (Prod.fst (Prod.snd (x.1))), Zi (Prod.fst (Prod.snd (Prod.snd (x.1)))), Zi (Prod.snd (Prod.snd (Prod.snd (x.1))))] []) (fun (x : { x : Int × Int × Int × Int // (fun (s : Int × Int × Int × Int) => EgW a m s) x }) => (fun (s : Int × Int × Int × Int) => Int.toNat (Prod.fst (Prod.snd s))) (x.1)) x0) ([1, 4, 0, 5, 6]) ([]) ([Zi m, Zi (Prod.snd (x0.1)).1, Zi (IntKind.wrap IntKind.i64 ((x0.1).1 - IntKind.wrap IntKind.i64 (IntKind.wrap IntKind.i64 (Int.tdiv (x0.1).1 (Prod.snd (x0.1)).1) * (Prod.snd (x0.1)).1))), Zi (Prod.snd (Prod.snd (x0.1))).2, Zi (IntKind.wrap IntKind.i64 ((Prod.snd (Prod.snd (x0.1))).1 - IntKind.wrap IntKind.i64 (IntKind.wrap IntKind.i64 (Int.tdiv (x0.1).1 (Prod.snd (x0.1)).1) * (Prod.snd (Prod.snd (x0.1))).2)))]) ([]))) (.br (decide ((Prod.snd (Prod.snd (x0.1))).1 < 0)) (.req (m ≠ (0 : Int)) (.out (AV.tup [Zi (x0.1).1, Zi (Int.tmod (IntKind.wrap IntKind.i64 ((Prod.snd (Prod.snd (x0.1))).1 + m)) m)]) [] y0 [])) (.req (m ≠ (0 : Int)) (.out (AV.tup [Zi (x0.1).1, Zi (Int.tmod (Prod.snd (Prod.snd (x0.1))).1 m)]) [] y0 [])))))))
    (by kernel_rfl) ?_
  refine k_loop (fun _ hs => hs.le (⟨.refl _, .refl _, .refl _, .refl _, .refl _, trivial⟩) (trivial)) (fun x0 => ?_)
  try (have q0 := x0.2; dsimp only at q0)
  have w := fun h => x0.2.1.w h hm
  refine k_br (fun h1 => ?_) (fun h1 => ?_)
  · have g1 := cnd_bne_t h1
    refine k_req (by omega) ?_
    exact k_again (⟨(x0.1.2.1, x0.1.1 % x0.1.2.1, x0.1.2.2.2, x0.1.2.2.1 - x0.1.1 / x0.1.2.1 * x0.1.2.2.2), EgW.step x0.2 g1⟩) (fun _ hs => hs.le (⟨.refl _, .refl _, Ent.of_eq (congrArg _ (w g1).1), .refl _, Ent.of_eq (congrArg _ (w g1).2.1), trivial⟩) (trivial)) (by have h := w g1; show Int.toNat (x0.1.1 % x0.1.2.1) < Int.toNat x0.1.2.1; omega)
  · have g1 := cnd_bne_f h1
    refine k_br (fun h4 => ?_) (fun h4 => ?_)
    · have g4 := cnd_dec_t h4
      refine k_req (by omega) ?_
      exact k_out (by have o := EgW.out x0.2 (by omega) hm; exact Ent.tup ⟨Ent.of_eq (congrArg _ o.1), Ent.of_eq (congrArg _ (o.2.1 g4)), trivial⟩)
    · have g4 := cnd_dec_f h4
      refine k_req (by omega) ?_
      exact k_out (by have o := EgW.out x0.2 (by omega) hm; exact Ent.tup ⟨Ent.of_eq (congrArg _ o.1), Ent.of_eq (congrArg _ (o.2.2.1 (by omega))), trivial⟩)

theorem size_c (a : Int) (h0 : 0 ≤ a) (h1 : a < 2305843009213693952) : Pure Tryz.prog gl0 260 [.int .i64 a] (.int .u64 a) := by
  refine pure_sk (own := ow0) Tryz.func260 (by kernel_rfl) mixed (by kernel_rfl)
    (.br (decide (a < 0)) (.out (Zu (IntKind.wrap IntKind.u64 (IntKind.wrap IntKind.u64 (IntKind.wrap IntKind.i64 ((0 : Int) - IntKind.wrap IntKind.i64 (a + 1))) + 1))) [] (Zu a) []) (.out (Zu (IntKind.wrap IntKind.u64 a)) [] (Zu a) []))
    (by kernel_rfl) ?_
  refine k_br (fun h0 => ?_) (fun h0 => ?_)
  · have g0 := cnd_dec_t h0
    exact k_out ((by exfalso; omega))
  · have g0 := cnd_dec_f h0
    exact k_out (Ent.of_eq (congrArg _ (wu64 (by omega) (by omega))))

theorem rgcd_c (a b : Int) (h0 : 0 ≤ a) (h1 : a < 2305843009213693952) (h2 : 0 ≤ b) (h3 : b < 2305843009213693952) : Pure Tryz.prog gl0 225 [.int .i64 a, .int .i64 b] (.int .i64 (Int.gcd a b : Nat)) := by
  refine pure_sk (own := ow0) Tryz.func225 (by kernel_rfl) mixed (by kernel_rfl)
    (.sc (true) 260 ([Zi a]) (Zu a) (.sc (true) 260 ([Zi b]) (Zu b) (.loop ({ x : Int × Int // (fun (s : Int × Int) => ((0 : Int) ≤ Prod.fst s ∧ Prod.fst s < 2305843009213693952 ∧ (0 : Int) ≤ Prod.snd s ∧ Prod.snd s < 2305843009213693952) ∧ Int.gcd (Prod.fst s) (Prod.snd s) = Int.gcd a b) x }) (fun (x : { x : Int × Int // (fun (s : Int × Int) => ((0 : Int) ≤ Prod.fst s ∧ Prod.fst s < 2305843009213693952 ∧ (0 : Int) ≤ Prod.snd s ∧ Prod.snd s < 2305843009213693952) ∧ Int.gcd (Prod.fst s) (Prod.snd s) = Int.gcd a b) x }) => mkSt [5, 6] [Zu (Prod.fst (x.1)), Zu (Prod.snd (x.1))] []) (fun (x : { x : Int × Int // (fun (s : Int × Int) => ((0 : Int) ≤ Prod.fst s ∧ Prod.fst s < 2305843009213693952 ∧ (0 : Int) ≤ Prod.snd s ∧ Prod.snd s < 2305843009213693952) ∧ Int.gcd (Prod.fst s) (Prod.snd s) = Int.gcd a b) x }) => (fun (s : Int × Int) => Int.toNat (Prod.snd s)) (x.1)) (⟨(a, b), ⟨⟨h0, ⟨h1, ⟨h2, h3⟩⟩⟩, rfl⟩⟩) ([5, 6]) ([]) ([Zu a, Zu b]) ([]) (fun x2 => (.br (decide ((x2.1).2 > 0)) (.req ((x2.1).2 ≠ (0 : Int)) (.again (Again 0 (fun (x : { x : Int × Int // (fun (s : Int × Int) => ((0 : Int) ≤ Prod.fst s ∧ Prod.fst s < 2305843009213693952 ∧ (0 : Int) ≤ Prod.snd s ∧ Prod.snd s < 2305843009213693952) ∧ Int.gcd (Prod.fst s) (Prod.snd s) = Int.gcd a b) x }) => mkSt [5, 6] [Zu (Prod.fst (x.1)), Zu (Prod.snd (x.1))] []) (fun (x : { x : Int × Int // (fun (s : Int × Int) => ((0 : Int) ≤ Prod.fst s ∧ Prod.fst s < 2305843009213693952 ∧ (0 : Int) ≤ Prod.snd s ∧ Prod.snd s < 2305843009213693952) ∧ Int.gcd (Prod.fst s) (Prod.snd s) = Int.gcd a b) x }) => (fun (s : Int × Int) => Int.toNat (Prod.snd s)) (x.1)) x2) ([5, 6]) ([]) ([Zu (x2.1).2, Zu (Int.tmod (x2.1).1 (x2.1).2)]) ([]))) (.br ((x2.1).1 == 9223372036854775808) (.out (Zi 0) [] (Zi (↑(Int.gcd a b) : Int)) []) (.out (Zi (IntKind.wrap IntKind.i64 (x2.1).1)) [] (Zi (↑(Int.gcd a b) : Int)) [])))))))
    (by kernel_rfl) ?_
  refine k_sc (size_c (a) (by assumption) (by assumption)) ?_
  refine k_sc (size_c (b) (by assumption) (by assumption)) ?_
  refine k_loop (fun _ hs => hs.le (⟨.refl _, .refl _, trivial⟩) (trivial)) (fun x2 => ?_)
  try (have q2 := x2.2; dsimp only at q2)
  refine k_br (fun h3 => ?_) (fun h3 => ?_)
  · have g3 := cnd_dec_t h3
    refine k_req (by omega) ?_
    exact k_again (⟨(x2.1.2, x2.1.1 % x2.1.2), ⟨⟨by omega, by omega, Int.emod_nonneg _ (by omega), Int.lt_trans (Int.emod_lt_of_pos _ (by omega)) (by omega : x2.1.2 < 2305843009213693952)⟩, (gcd_next _ _).trans q2.2⟩⟩) (fun _ hs => hs.le (⟨.refl _, Ent.of_eq (congrArg _ (tmod_nn (by omega))), trivial⟩) (trivial)) (by have := Int.emod_lt_of_pos x2.1.1 (show 0 < x2.1.2 by omega); have := Int.emod_nonneg x2.1.1 (show x2.1.2 ≠ 0 by omega); show Int.toNat (x2.1.1 % x2.1.2) < Int.toNat x2.1.2; omega)
  · have g3 := cnd_dec_f h3
    refine k_br (fun h6 => ?_) (fun h6 => ?_)
    · have g6 := cnd_beq_t h6
      exact k_out ((by exfalso; omega))
    · have g6 := cnd_beq_f h6
      exact k_out (Ent.of_eq (congrArg _ (by rw [wI (by omega) (by omega)]; exact gcd_last (by omega) (by omega) q2.2)))

theorem rinv_c (a m : Int) (k0 : 0 ≤ a) (k1 : a < m) (hm : m < 2305843009213693952) : Pure Tryz.prog gl0 181 [.int .i64 a, .int .i64 m] (.tup [.int .i64 (invF a m), .bool (decide (Int.gcd a m = 1))]) := by
  refine pure_sk (own := ow0) Tryz.func181 (by kernel_rfl) mixed (by kernel_rfl)
    (let y0 : AV := (AV.tup [Zi (invF a m), AV.bool (decide (Int.gcd a m = 1))]); (.sc (true) 225 ([Zi a, Zi m]) (Zi (↑(Int.gcd a m) : Int)) (.br ((↑(Int.gcd a m) : Int) != 1) (.out (AV.tup [Zi 0, AV.bool false]) [] y0 []) (.req (m ≠ (0 : Int)) (.loop ({ x : Int × Int × Int × Int // (fun (s : Int × Int × Int × Int) => RgI a m (Prod.fst s) (Prod.fst (Prod.snd s)) (Prod.fst (Prod.snd (Prod.snd s))) (Prod.snd (Prod.snd (Prod.snd s)))) x }) (fun (x : { x : Int × Int × Int × Int // (fun (s : Int × Int × Int × Int) => RgI a m (Prod.fst s) (Prod.fst (Prod.snd s)) (Prod.fst (Prod.snd (Prod.snd s))) (Prod.snd (Prod.snd (Prod.snd s)))) x }) => mkSt [1, 6, 7, 8, 9] [Zi m, Zi (Prod.fst (x.1)), Zi (Prod.fst (Prod.snd (x.1))), Zi (Prod.fst (Prod.snd (Prod.snd (x.1)))), Zi (Prod.snd (Prod.snd (Prod.snd (x.1))))] []) (fun (x : { x : Int × Int × Int × Int // (fun (s : Int × Int × Int × Int) => RgI a m (Prod.fst s) (Prod.fst (Prod.snd s)) (Prod.fst (Prod.snd (Prod.snd s))) (Prod.snd (Prod.snd (Prod.snd s)))) x }) => (fun (s : Int × Int × Int × Int) => Int.toNat (Prod.fst (Prod.snd s))) (x.1)) (⟨(a, m, (1 : Int) % m, (0 : Int)), RgI.start k0 k1⟩) ([1, 6, 7, 8, 9]) ([]) ([Zi m, Zi a, Zi m, Zi (Int.tmod (1 : Int) m), Zi 0]) ([]) (fun x4 => (.br ((Prod.snd (x4.1)).1 != 0) (.req ((Prod.snd (x4.1)).1 ≠ (0 : Int)) (.sc (true) 65 ([Zi (IntKind.wrap IntKind.i64 (Int.tdiv (x4.1).1 (Prod.snd (x4.1)).1)), Zi m]) (Zi (IntKind.wrap IntKind.i64 (Int.tdiv (x4.1).1 (Prod.snd (x4.1)).1) % m)) (.sc (true) 64 ([Zi (IntKind.wrap IntKind.i64 (Int.tdiv (x4.1).1 (Prod.snd (x4.1)).1) % m), Zi (Prod.snd (Prod.snd (x4.1))).2, Zi m]) (Zi (IntKind.wrap IntKind.i64 (Int.tdiv (x4.1).1 (Prod.snd (x4.1)).1) % m * (Prod.snd (Prod.snd (x4.1))).2 % m)) (.sc (true) 65 ([Zi (IntKind.wrap IntKind.i64 ((Prod.snd (Prod.snd (x4.1))).1 - IntKind.wrap IntKind.i64 (Int.tdiv (x4.1).1 (Prod.snd (x4.1)).1) % m * (Prod.snd (Prod.snd (x4.1))).2 % m)), Zi m]) (Zi (IntKind.wrap IntKind.i64 ((Prod.snd (Prod.snd (x4.1))).1 - IntKind.wrap IntKind.i64 (Int.tdiv (x4.1).1 (Prod.snd (x4.1)).1) % m * (Prod.snd (Prod.snd (x4.1))).2 % m) % m)) (.again (Again 0 (fun (x : { x : Int × Int × Int × Int // (fun (s : Int × Int × Int × Int) => RgI a m (Prod.fst s) (Prod.fst (Prod.snd s)) (Prod.fst (Prod.snd (Prod.snd s))) (Prod.snd (Prod.snd (Prod.snd s)))) x }) => mkSt [1, 6, 7, 8, 9] [Zi m, Zi (Prod.fst (x.1)), Zi (Prod.fst (Prod.snd (x.1))), Zi (Prod.fst (Prod.snd (Prod.snd (x.1)))), Zi (Prod.snd (Prod.snd (Prod.snd (x.1))))] []) (fun (x : { x : Int × Int × Int × Int // (fun (s : Int × Int × Int × Int) => RgI a m (Prod.fst s) (Prod.fst (Prod.snd s)) (Prod.fst (Prod.snd (Prod.snd s))) (Prod.snd (Prod.snd (Prod.snd s)))) x }) => (fun (s : Int × Int × Int × Int) => Int.toNat (Prod.fst (Prod.snd s))) (x.1)) x4) ([1, 6, 7, 8, 9]) ([]) ([Zi m, Zi (Prod.snd (x4.1)).1, Zi (IntKind.wrap IntKind.i64 ((x4.1).1 - IntKind.wrap IntKind.i64 (IntKind.wrap IntKind.i64 (Int.tdiv (x4.1).1 (Prod.snd (x4.1)).1) * (Prod.snd (x4.1)).1))), Zi (Prod.snd (Prod.snd (x4.1))).2, Zi (IntKind.wrap IntKind.i64 ((Prod.snd (Prod.snd (x4.1))).1 - IntKind.wrap IntKind.i64 (Int.tdiv (x4.1).1 (Prod.snd (x4.1)).1) % m * (Prod.snd (Prod.snd (x4.1))).2 % m) % m)]) ([])))))) (.out (AV.tup [Zi (Prod.snd (Prod.snd (x4.1))).1, AV.bool true]) [] y0 []))))))))
    (by kernel_rfl) ?_
  refine k_sc (rgcd_c (a) (m) (by omega) (by omega) (by omega) (by omega)) ?_
  refine k_br (fun h1 => ?_) (fun h1 => ?_)
  · have g1 := cnd_bne_t h1
    exact k_out (Ent.of_eq (by rw [invF_none (by omega), decide_eq_false (by omega)]))
  · have g1 := cnd_bne_f h1
    refine k_req (by omega) ?_
    refine k_loop (fun _ hs => hs.le (⟨.refl _, .refl _, .refl _, Ent.of_eq (congrArg _ (tmod_nn (by decide))), .refl _, trivial⟩) (trivial)) (fun x4 => ?_)
    try (have q4 := x4.2; dsimp only at q4)
    have w := fun h => x4.2.w h hm; have b5 := x4.2.x0; have b6 := x4.2.x1; have b7 := x4.2.y0; have b8 := x4.2.y1; have b1 := x4.2.u0; have b2 := x4.2.u1; have b3 := x4.2.v0; have b4 := x4.2.v1
    refine k_br (fun h5 => ?_) (fun h5 => ?_)
    · have g5 := cnd_bne_t h5
      refine k_req (by omega) ?_
      refine k_sc (rreduce_c (IntKind.wrap IntKind.i64 (Int.tdiv (x4.1).1 (Prod.snd (x4.1)).1)) (m) (by omega) (by omega)) ?_
      refine k_sc (rmul_c (IntKind.wrap IntKind.i64 (Int.tdiv (x4.1).1 (Prod.snd (x4.1)).1) % m) ((Prod.snd (Prod.snd (x4.1))).2) (m) (by (have h := w g5; rw [h.1]; omega)) (by (have h := w g5; rw [h.1]; omega)) (by omega) (by omega) (by omega)) ?_
      refine k_sc (rreduce_c (IntKind.wrap IntKind.i64 ((Prod.snd (Prod.snd (x4.1))).1 - IntKind.wrap IntKind.i64 (Int.tdiv (x4.1).1 (Prod.snd (x4.1)).1) % m * (Prod.snd (Prod.snd (x4.1))).2 % m)) (m) (by omega) (by omega)) ?_
      exact k_again (⟨(x4.1.2.1, x4.1.1 % x4.1.2.1, x4.1.2.2.2, (x4.1.2.2.1 - x4.1.1 / x4.1.2.1 % m * x4.1.2.2.2 % m) % m), (x4.2.nxt g5).1⟩) (fun _ hs => hs.le (⟨.refl _, .refl _, Ent.of_eq (congrArg _ (w g5).2.1), .refl _, Ent.of_eq (congrArg _ (by rw [(w g5).1, (w g5).2.2.2.2.2.2.2])), trivial⟩) (trivial)) (by have h := w g5; show Int.toNat (x4.1.1 % x4.1.2.1) < Int.toNat x4.1.2.1; omega)
    · have g5 := cnd_bne_f h5
      exact k_out (Ent.tup ⟨Ent.of_eq (congrArg _ (by have h := q4; rw [show x4.1.2.1 = 0 by omega] at h; exact h.fin (by omega))), Ent.of_eq (congrArg AV.bool (decide_eq_true (by omega)).symm), trivial⟩)

theorem winv_c (a m : Int) (k0 : 0 ≤ a) (k1 : a < m) (hm : m < 2305843009213693952) : Pure Tryz.prog gl0 112 [.int .i64 a, .int .i64 m] (.tup [.int .i64 (invF a m), .int .i64 (if Int.gcd a m = 1 then 0 else 10)]) := by
  refine pure_sk (own := ow0) Tryz.func112 (by kernel_rfl) mixed (by kernel_rfl)
    (let y0 : AV := (AV.tup [Zi (invF a m), Zi (if Int.gcd a m = 1 then (0 : Int) else (10 : Int))]); (.sc (true) 185 ([Zi a, Zi a, Zi m]) (Zi (chkI a a m)) (.br (chkI a a m != 0) (.out (AV.tup [Zi 0, Zi (chkI a a m)]) [] y0 []) (.sc (true) 186 ([Zi a, Zi m]) (AV.tup [Zi (↑(Int.gcd a m) : Int), Zi (egX a m)]) (.br ((↑(Int.gcd a m) : Int) != 1) (.out (AV.tup [Zi 0, Zi 10]) [] y0 []) (.out (AV.tup [Zi (egX a m), Zi 0]) [] y0 []))))))
    (by kernel_rfl) ?_
  refine k_sc (check_c (a) (a) (m)) ?_
  refine k_br (fun h1 => ?_) (fun h1 => ?_)
  · have g1 := cnd_bne_t h1
    exact k_out ((by exfalso; exact g1 (chk_zero k0 k1 hm)))
  · have g1 := cnd_bne_f h1
    refine k_sc (euclid_c (a) (m) (by assumption) (by assumption) (by assumption)) ?_
    refine k_br (fun h4 => ?_) (fun h4 => ?_)
    · have g4 := cnd_bne_t h4
      exact k_out (Ent.of_eq (by rw [invF_none (by omega), if_neg (by omega)]))
    · have g4 := cnd_bne_f h4
      exact k_out (Ent.of_eq (by rw [(egX_inv k0 k1).2 (by omega), if_pos (by omega)]))

end Go.Proofs.YtdaaddkipdmajaaGreatDoor

namespace Go.Proofs.YtdaaddkipdmajaaGreatDoor
open Go Go.Am Go.Sp
set_option maxRecDepth 100000

theorem xspan_c (s : Spend) : Pure Tryz.prog gl0 109 [s.av] (.tup [.int .i64 (bif okS s then spanA s.depth s.level s.index else 0), .int .i64 (bif okS s then spanZ s.depth s.level s.index else 0), .bool (okS s)]) := by
  refine pure_sk (own := ow0) Tryz.func109 (by kernel_rfl) mixed (by kernel_rfl)
    (let y0 : AV := (AV.tup [Zi (bif okS s then spanA (Spend.depth s) (Spend.level s) (Spend.index s) else (0 : Int)), Zi (bif okS s then spanZ (Spend.depth s) (Spend.level s) (Spend.index s) else (0 : Int)), AV.bool (okS s)]); (.sc (true) 25 ([Zi s.4, AV.agg [Zi s.11, Zi s.12]]) (AV.tup [Zi (spanA s.4 s.11 s.12), Zi (spanZ s.4 s.11 s.12), Zi (spanE s.4 s.11 s.12)]) (.br (spanE s.4 s.11 s.12 != 0 || (↑s.16 : Int) != IntKind.wrap IntKind.i64 (spanZ s.4 s.11 s.12 - spanA s.4 s.11 s.12) || decide (s.14 < 0) || decide (s.14 > 1099511627776) || decide (s.15 < 0) || decide (s.15 > 1073741824)) (.out (AV.tup [Zi 0, Zi 0, AV.bool false]) [] y0 []) (.out (AV.tup [Zi (spanA s.4 s.11 s.12), Zi (spanZ s.4 s.11 s.12), AV.bool true]) [] y0 []))))
    (by kernel_rfl) ?_
  refine k_sc (span_c (s.4) (s.11) (s.12)) ?_
  refine k_br (fun h1 => ?_) (fun h1 => ?_)
  · have g1 := (cnd_or_t (cnd_or_t (cnd_or_t (cnd_or_t (cnd_or_t cnd_bne_t cnd_bne_t) cnd_dec_t) cnd_dec_t) cnd_dec_t) cnd_dec_t) h1
    exact k_out (Ent.of_eq (by have e : okS s = false := congrArg not h1; rw [e]; rfl))
  · have g1 := (cnd_or_f (cnd_or_f (cnd_or_f (cnd_or_f (cnd_or_f cnd_bne_f cnd_bne_f) cnd_dec_f) cnd_dec_f) cnd_dec_f) cnd_dec_f) h1
    exact k_out (Ent.of_eq (by have e : okS s = true := congrArg not h1; rw [e]; rfl))

theorem formed1_c (s : Spend) : Pure Tryz.prog gl0 175 [s.av] (.bool (!okS s)) := by
  refine pure_sk (own := ow0) Tryz.func175 (by kernel_rfl) mixed (by kernel_rfl)
    (.sc (true) 109 ([AV.agg (Spend.cells s)]) (AV.tup [Zi (bif okS s then spanA (Spend.depth s) (Spend.level s) (Spend.index s) else (0 : Int)), Zi (bif okS s then spanZ (Spend.depth s) (Spend.level s) (Spend.index s) else (0 : Int)), AV.bool (okS s)]) (.out (AV.bool !okS s) [] (AV.bool !okS s) []))
    (by kernel_rfl) ?_
  refine k_sc ((xspan_c s)) ?_
  exact k_out (Ent.refl _)

theorem indexS_c (S : Nat → Spend) (n : Nat) (hn : n < 9223372036854775808) : Pure Tryz.prog gl0 174 [.isl 80 n (fun i j => atL (S i).cells j), .fn (.func 175) [] []] (.int .i64 (firstI (fun i => !okS (S i)) n 0)) := by
  refine pure_sk (own := ow0) Tryz.func174 (by kernel_rfl) mixed (by kernel_rfl)
    (let y0 : AV := (Zi (firstI (fun (i : Nat) => !okS (S i)) n 0)); (.loop (Sp.Sub fun (i : Nat) => firstI (fun (i : Nat) => !okS (S i)) n 0 = firstI (fun (i : Nat) => !okS (S i)) (n - i) i) (fun (x : Sp.Sub fun (i : Nat) => firstI (fun (i : Nat) => !okS (S i)) n 0 = firstI (fun (i : Nat) => !okS (S i)) (n - i) i) => mkSt [0, 1, 6, 7, 8] [AV.isl 80 n fun (i j : Nat) => atL (Spend.cells (S i)) j, AV.fn (Fn.func (175 : FuncId)) [] [], AV.isl 80 n fun (i j : Nat) => atL (Spend.cells (S i)) j, Zi (↑n : Int), Zi (↑(x.1) : Int)] []) (fun (i : Sp.Sub fun (i : Nat) => firstI (fun (i : Nat) => !okS (S i)) n 0 = firstI (fun (i : Nat) => !okS (S i)) (n - i) i) => n - i.1) (⟨0, rfl⟩) ([0, 1, 6, 7, 8]) ([]) ([AV.isl 80 n fun (i j : Nat) => atL (Spend.cells (S i)) j, AV.fn (Fn.func (175 : FuncId)) [] [], AV.isl 80 n fun (i j : Nat) => atL (Spend.cells (S i)) j, Zi (↑n : Int), Zi 0]) ([]) (fun x0 => (.br (decide ((↑x0.1 : Int) < (↑n : Int))) (.req ((0 : Int) ≤ (↑x0.1 : Int) ∧ (↑x0.1 : Int) < (↑n : Int)) (.sc (true) 175 ([AV.agg (Spend.cells (S (Int.toNat (↑(x0.1) : Int))))]) (AV.bool !okS (S (Int.toNat (↑(x0.1) : Int)))) (.br (!okS (S (Int.toNat (↑x0.1 : Int)))) (.out (Zi (↑x0.1 : Int)) [] y0 []) (.again (Again 0 (fun (x : Sp.Sub fun (i : Nat) => firstI (fun (i : Nat) => !okS (S i)) n 0 = firstI (fun (i : Nat) => !okS (S i)) (n - i) i) => mkSt [0, 1, 6, 7, 8] [AV.isl 80 n fun (i j : Nat) => atL (Spend.cells (S i)) j, AV.fn (Fn.func (175 : FuncId)) [] [], AV.isl 80 n fun (i j : Nat) => atL (Spend.cells (S i)) j, Zi (↑n : Int), Zi (↑(x.1) : Int)] []) (fun (i : Sp.Sub fun (i : Nat) => firstI (fun (i : Nat) => !okS (S i)) n 0 = firstI (fun (i : Nat) => !okS (S i)) (n - i) i) => n - i.1) x0) ([0, 1, 6, 7, 8]) ([]) ([AV.isl 80 n fun (i j : Nat) => atL (Spend.cells (S i)) j, AV.fn (Fn.func (175 : FuncId)) [] [], AV.isl 80 n fun (i j : Nat) => atL (Spend.cells (S i)) j, Zi (↑n : Int), Zi (IntKind.wrap IntKind.i64 ((↑x0.1 : Int) + 1))]) ([]))))) (.out (Zi (-1)) [] y0 [])))))
    (by kernel_rfl) ?_
  refine k_loop (fun _ hs => hs.le (by repeat' (first | exact trivial | (first | exact Ent.refl _ | exact inc_ent (by omega) | exact Ent.nil rfl | exact Ent.of_eq (congrArg (AV.osl _ _ _) (by first | omega | (dsimp only; omega))) | exact Ent.of_eq (congrArg (AV.int _) (by first | omega | (dsimp only; omega)))) | refine And.intro ?_ ?_)) (trivial)) (fun x0 => ?_)
  try (have q0 := x0.2; dsimp only at q0)
  refine k_br (fun h1 => ?_) (fun h1 => ?_)
  · have g1 := cnd_dec_t h1
    refine k_req (by have := of_decide_eq_true h1; omega) ?_
    refine k_sc ((formed1_c (S (Int.toNat (↑(x0.1) : Int))))) ?_
    refine k_br (fun h4 => ?_) (fun h4 => ?_)
    · have g4 := (cnd_not_t cnd_id_f) h4
      try simp only [Int.toNat_natCast] at g4
      exact k_out (Ent.of_eq (congrArg _ (first_hit x0.2 (show x0.1 < n by have := of_decide_eq_true h1; omega) (by simpa using h4))))
    · have g4 := (cnd_not_f cnd_id_t) h4
      try simp only [Int.toNat_natCast] at g4
      exact k_again (⟨x0.1 + 1, first_next x0.2 (show x0.1 < n by have := of_decide_eq_true h1; omega) (by simpa using h4)⟩) (fun _ hs => hs.le (⟨Ent.refl _, Ent.refl _, Ent.refl _, Ent.refl _, inc_ent (by have := of_decide_eq_true h1; omega), trivial⟩) (trivial)) (by have := of_decide_eq_true h1; show n - (x0.1 + 1) < n - x0.1; omega)
  · have g1 := cnd_dec_f h1
    exact k_out (Ent.of_eq (congrArg _ (first_miss x0.2 (by have := of_decide_eq_false h1; omega))))

theorem find1_c (l0 l1 l2 b : Int) : Pure Tryz.prog gl0 184 [.agg [.int .i64 l0, .int .i64 l1, .int .i64 l2], .ipt 1 (atL [.int .i64 b])] (.bool (l0 == b)) := by
  refine pure_sk (own := ow0) Tryz.func184 (by kernel_rfl) mixed (by kernel_rfl)
    (.out (AV.bool (l0 == b)) [] (AV.bool (l0 == b)) [])
    (by kernel_rfl) ?_
  exact k_out (Ent.refl _)

theorem indexL_c (f : Nat → Nat → Int) (n : Nat) (b : Int) (hn : n < 9223372036854775808) : Pure Tryz.prog gl0 183 [lvs n f, .fn (.func 184) [] [.ipt 1 (atL [.int .i64 b])]] (.int .i64 (firstI (fun i => f i 0 == b) n 0)) := by
  refine pure_sk (own := ow0) Tryz.func183 (by kernel_rfl) mixed (by kernel_rfl)
    (let y0 : List AV := [AV.ipt 1 (atL [Zi b])]; let y1 : AV := (Zi (firstI (fun (i : Nat) => f i 0 == b) n 0)); (.loop (Sp.Sub fun (i : Nat) => firstI (fun (i : Nat) => f i 0 == b) n 0 = firstI (fun (i : Nat) => f i 0 == b) (n - i) i) (fun (x : Sp.Sub fun (i : Nat) => firstI (fun (i : Nat) => f i 0 == b) n 0 = firstI (fun (i : Nat) => f i 0 == b) (n - i) i) => mkSt [0, 1, 6, 7, 8] [lvs n f, AV.fn (Fn.func (184 : FuncId)) [] y0, lvs n f, Zi (↑n : Int), Zi (↑(x.1) : Int)] []) (fun (i : Sp.Sub fun (i : Nat) => firstI (fun (i : Nat) => f i 0 == b) n 0 = firstI (fun (i : Nat) => f i 0 == b) (n - i) i) => n - i.1) (⟨0, rfl⟩) ([0, 1, 6, 7, 8]) ([]) ([AV.isl 3 n fun (i j : Nat) => Zi (f i j), AV.fn (Fn.func (184 : FuncId)) [] y0, AV.isl 3 n fun (i j : Nat) => Zi (f i j), Zi (↑n : Int), Zi 0]) ([]) (fun x0 => (.br (decide ((↑x0.1 : Int) < (↑n : Int))) (.req ((0 : Int) ≤ (↑x0.1 : Int) ∧ (↑x0.1 : Int) < (↑n : Int)) (.sc (true) 184 ([AV.agg [Zi (f (Int.toNat (↑x0.1 : Int)) 0), Zi (f (Int.toNat (↑x0.1 : Int)) 1), Zi (f (Int.toNat (↑x0.1 : Int)) 2)], AV.ipt 1 (atL [Zi b])]) (AV.bool (f (Int.toNat (↑x0.1 : Int)) 0 == b)) (.br (f (Int.toNat (↑x0.1 : Int)) 0 == b) (.out (Zi (↑x0.1 : Int)) [] y1 []) (.again (Again 0 (fun (x : Sp.Sub fun (i : Nat) => firstI (fun (i : Nat) => f i 0 == b) n 0 = firstI (fun (i : Nat) => f i 0 == b) (n - i) i) => mkSt [0, 1, 6, 7, 8] [lvs n f, AV.fn (Fn.func (184 : FuncId)) [] y0, lvs n f, Zi (↑n : Int), Zi (↑(x.1) : Int)] []) (fun (i : Sp.Sub fun (i : Nat) => firstI (fun (i : Nat) => f i 0 == b) n 0 = firstI (fun (i : Nat) => f i 0 == b) (n - i) i) => n - i.1) x0) ([0, 1, 6, 7, 8]) ([]) ([AV.isl 3 n fun (i j : Nat) => Zi (f i j), AV.fn (Fn.func (184 : FuncId)) [] y0, AV.isl 3 n fun (i j : Nat) => Zi (f i j), Zi (↑n : Int), Zi (IntKind.wrap IntKind.i64 ((↑x0.1 : Int) + 1))]) ([]))))) (.out (Zi (-1)) [] y1 [])))))
    (by kernel_rfl) ?_
  refine k_loop (fun _ hs => hs.le (by repeat' (first | exact trivial | (first | exact Ent.refl _ | exact inc_ent (by omega) | exact Ent.nil rfl | exact Ent.of_eq (congrArg (AV.osl _ _ _) (by first | omega | (dsimp only; omega))) | exact Ent.of_eq (congrArg (AV.int _) (by first | omega | (dsimp only; omega)))) | refine And.intro ?_ ?_)) (trivial)) (fun x0 => ?_)
  try (have q0 := x0.2; dsimp only at q0)
  refine k_br (fun h1 => ?_) (fun h1 => ?_)
  · have g1 := cnd_dec_t h1
    refine k_req (by have := of_decide_eq_true h1; omega) ?_
    refine k_sc (find1_c (f (Int.toNat (↑x0.1 : Int)) (0)) (f (Int.toNat (↑x0.1 : Int)) (1)) (f (Int.toNat (↑x0.1 : Int)) (2)) (b)) ?_
    refine k_br (fun h4 => ?_) (fun h4 => ?_)
    · have g4 := cnd_beq_t h4
      try simp only [Int.toNat_natCast] at g4
      exact k_out (Ent.of_eq (congrArg _ (first_hit x0.2 (show x0.1 < n by have := of_decide_eq_true h1; omega) (by simpa using h4))))
    · have g4 := cnd_beq_f h4
      try simp only [Int.toNat_natCast] at g4
      exact k_again (⟨x0.1 + 1, first_next x0.2 (show x0.1 < n by have := of_decide_eq_true h1; omega) (by simpa using h4)⟩) (fun _ hs => hs.le (⟨Ent.refl _, Ent.refl _, Ent.refl _, Ent.refl _, inc_ent (by have := of_decide_eq_true h1; omega), trivial⟩) (trivial)) (by have := of_decide_eq_true h1; show n - (x0.1 + 1) < n - x0.1; omega)
  · have g1 := cnd_dec_f h1
    exact k_out (Ent.of_eq (congrArg _ (first_miss x0.2 (by have := of_decide_eq_false h1; omega))))

theorem find_c (s : Spend) (b : Int) (hn : s.nl < 9223372036854775808) : Pure Tryz.prog gl0 110 [s.av, .int .i64 b] (.int .i64 (firstI (fun i => s.lf i 0 == b) s.nl 0)) := by
  refine pure_sk (own := ow0) Tryz.func110 (by kernel_rfl) mixed (by kernel_rfl)
    (let y0 : AV := (Zi (firstI (fun (i : Nat) => s.17 i 0 == b) s.16 0)); (.sc (true) 183 ([AV.isl 3 s.16 fun (i j : Nat) => Zi (s.17 i j), AV.fn (Fn.func 184) [] [AV.ipt 1 fun (k : Nat) => atL [Zi b] k]]) y0 (.out y0 [] (Zi (firstI (fun (i : Nat) => Spend.lf s i 0 == b) (Spend.nl s) 0)) [])))
    (by kernel_rfl) ?_
  refine k_sc (indexL_c (s.17) (s.16) (b) (by assumption)) ?_
  exact k_out (Ent.refl _)

theorem containsS_c (S : Nat → Spend) (n : Nat) (hn : n < 9223372036854775808) : Pure Tryz.prog gl0 96 [.isl 80 n (fun i j => atL (S i).cells j), .fn (.func 175) [] []] (.bool (decide (firstI (fun i => !okS (S i)) n 0 ≥ 0))) := by
  refine pure_sk (own := ow0) Tryz.func96 (by kernel_rfl) mixed (by kernel_rfl)
    (let y0 : AV := (AV.bool (decide (firstI (fun (i : Nat) => !okS (S i)) n 0 ≥ 0))); (.sc (true) 174 ([AV.isl 80 n fun (i j : Nat) => atL (Spend.cells (S i)) j, AV.fn (Fn.func (175 : FuncId)) [] []]) (Zi (firstI (fun (i : Nat) => !okS (S i)) n 0)) (.out y0 [] y0 [])))
    (by kernel_rfl) ?_
  refine k_sc ((indexS_c S n hn)) ?_
  exact k_out (Ent.refl _)

theorem formed_c (S : Nat → Spend) (n : Nat) (hn : n < 9223372036854775808) : Pure Tryz.prog gl0 98 [.isl 80 n (fun i j => atL (S i).cells j)] (.bool (!decide (firstI (fun i => !okS (S i)) n 0 ≥ 0))) := by
  refine pure_sk (own := ow0) Tryz.func98 (by kernel_rfl) mixed (by kernel_rfl)
    (let y0 : AV := (AV.bool !decide (firstI (fun (i : Nat) => !okS (S i)) n 0 ≥ 0)); (.sc (true) 96 ([AV.isl 80 n fun (i j : Nat) => atL (Spend.cells (S i)) j, AV.fn (Fn.func 175) [] []]) (AV.bool (decide (firstI (fun (i : Nat) => !okS (S i)) n 0 ≥ 0))) (.out y0 [] y0 [])))
    (by kernel_rfl) ?_
  refine k_sc ((containsS_c S n hn)) ?_
  exact k_out (Ent.refl _)

theorem rformed_c (s : Spend) : Pure Tryz.prog gl0 42 [s.av] (.bool (okS s)) := by
  refine pure_sk (own := ow0) Tryz.func42 (by kernel_rfl) mixed (by kernel_rfl)
    (.sc ((decide (s.4 < 0) || decide (s.4 > 5)) == false) 22 ([Zi s.4, AV.agg [Zi s.11, Zi s.12]]) (AV.bool (nodeB s.4 s.11 s.12)) (.sc ((decide (s.4 < 0) || decide (s.4 > 5) || !nodeB s.4 s.11 s.12) == false) 23 ([AV.agg (u8c s.13 ++ [Zi s.14, Zi s.15])]) (AV.bool (ctxB (Cxt.time { payee := Spend.payee s, time := Spend.time s, number := Spend.number s }) (Cxt.number { payee := Spend.payee s, time := Spend.time s, number := Spend.number s }))) (.br (decide (s.4 < 0) || decide (s.4 > 5) || !nodeB s.4 s.11 s.12 || !ctxB s.14 s.15) (.out (AV.bool false) [] (AV.bool (okS s)) []) (.sc (true) 63 ([Zi s.4, AV.agg [Zi s.11, Zi s.12]]) (AV.tup [Zi (spanA s.4 s.11 s.12), Zi (spanZ s.4 s.11 s.12)]) (.out (AV.bool ((↑s.16 : Int) == IntKind.wrap IntKind.i64 (spanZ s.4 s.11 s.12 - spanA s.4 s.11 s.12))) [] (AV.bool (okS s)) [])))))
    (by kernel_rfl) ?_
  refine k_scg (fun h0 => rnode_c (s.4) (s.11) (s.12)) ?_
  refine k_scg (fun h1 => (rctx_c { payee := Spend.payee s, time := Spend.time s, number := Spend.number s })) ?_
  refine k_br (fun h2 => ?_) (fun h2 => ?_)
  · have g2 := (cnd_or_t (cnd_or_t (cnd_or_t cnd_dec_t cnd_dec_t) (cnd_not_t cnd_id_f)) (cnd_not_t cnd_id_f)) h2
    exact k_out (Ent.of_eq (by rw [okS_no h2]))
  · have g2 := (cnd_or_f (cnd_or_f (cnd_or_f cnd_dec_f cnd_dec_f) (cnd_not_f cnd_id_t)) (cnd_not_f cnd_id_t)) h2
    refine k_sc (rspan_c (s.4) (s.11) (s.12) ((okS_yes h2).1)) ?_
    exact k_out (Ent.of_eq (congrArg _ (okS_yes h2).2))

theorem shared_c (a b : Spend) (hn : a.nl ≤ 1000) (hb : b.nl ≤ 1000) : Pure Tryz.prog gl0 106 [a.av, b.av] (il .i64 (sharedL a b)) := by
  refine pure_sk (own := ow0) Tryz.func106 (by kernel_rfl) mixed (by kernel_rfl)
    (.br (a.5 != b.5) (.out (AV.nsl) [] (il IntKind.i64 (sharedL a b)) []) (.sc (true) 109 ([AV.agg (Spend.cells a)]) (AV.tup [Zi (bif okS a then spanA (Spend.depth a) (Spend.level a) (Spend.index a) else (0 : Int)), Zi (bif okS a then spanZ (Spend.depth a) (Spend.level a) (Spend.index a) else (0 : Int)), AV.bool (okS a)]) (.loop (Sp.Sub fun (x : Nat) => x ≤ Spend.nl a) (fun (x : Sp.Sub fun (x : Nat) => x ≤ Spend.nl a) => mkSt [3, 5, 8, 25, 26, 27] [AV.own 0 80 0 0 80, Zi (fromS a), AV.osl 1 1 0 (List.length (sharedN a b (x.1))), lvs (Spend.nl a) (Spend.lf a), Zi (↑(Spend.nl a) : Int), Zi (↑(x.1) : Int)] [some ⟨80, 1, true, Rep.lst [Spend.cells b]⟩, ilO IntKind.i64 (sharedN a b (x.1))]) (fun (x : Sp.Sub fun (x : Nat) => x ≤ Spend.nl a) => Spend.nl a - x.1) (⟨0, Nat.zero_le (Spend.nl a)⟩) ([3, 5, 8, 25, 26, 27]) ([8, 449]) ([AV.own 0 80 0 0 80, Zi (bif okS a then spanA a.4 a.11 a.12 else (0 : Int)), AV.nsl, AV.isl 3 a.16 fun (i j : Nat) => Zi (a.17 i j), Zi (↑a.16 : Int), Zi 0]) ([some ⟨80, 1, true, Rep.lst [Spend.cells b]⟩, some ⟨1, 0, true, Rep.lst []⟩]) (fun x3 => (.br (decide ((↑x3.1 : Int) < (↑a.16 : Int))) (.req ((0 : Int) ≤ (↑x3.1 : Int) ∧ (↑x3.1 : Int) < (↑a.16 : Int)) (.sc (true) 110 ([AV.agg (Spend.cells b), Zi (a.17 (Int.toNat (↑x3.1 : Int)) 0)]) (Zi (firstI (fun (i : Nat) => Spend.lf b i 0 == a.17 (Int.toNat (↑x3.1 : Int)) 0) (Spend.nl b) 0)) (.br (decide (firstI (fun (i : Nat) => b.17 i 0 == a.17 (Int.toNat (↑x3.1 : Int)) 0) b.16 0 ≥ 0)) (.req ((List.length (sharedN a b (x3.1)) + 1) * 8 ≤ 140737488355328) (.again (Again 0 (fun (x : Sp.Sub fun (x : Nat) => x ≤ Spend.nl a) => mkSt [3, 5, 8, 25, 26, 27] [AV.own 0 80 0 0 80, Zi (fromS a), AV.osl 1 1 0 (List.length (sharedN a b (x.1))), lvs (Spend.nl a) (Spend.lf a), Zi (↑(Spend.nl a) : Int), Zi (↑(x.1) : Int)] [some ⟨80, 1, true, Rep.lst [Spend.cells b]⟩, ilO IntKind.i64 (sharedN a b (x.1))]) (fun (x : Sp.Sub fun (x : Nat) => x ≤ Spend.nl a) => Spend.nl a - x.1) x3) ([3, 5, 8, 25, 26, 27]) ([0, 138]) ([AV.own 0 80 0 0 80, Zi (fromS a), AV.osl 1 1 0 (List.length (sharedN a b (x3.1)) + 1), AV.isl 3 a.16 fun (i j : Nat) => Zi (a.17 i j), Zi (↑a.16 : Int), Zi (IntKind.wrap IntKind.i64 ((↑x3.1 : Int) + 1))]) ([some ⟨80, 1, true, Rep.lst [Spend.cells b]⟩, some ⟨1, List.length (sharedN a b (x3.1)) + 1, true, Rep.fn fun (i j : Nat) => Zi (bif Nat.blt i (List.length (sharedN a b (x3.1))) then List.getD (sharedN a b (x3.1)) i (0 : Int) else intOfAV (atL [Zi (IntKind.wrap IntKind.i64 (fromS a + (↑(x3.1) : Int)))] j))⟩]))) (.again (Again 0 (fun (x : Sp.Sub fun (x : Nat) => x ≤ Spend.nl a) => mkSt [3, 5, 8, 25, 26, 27] [AV.own 0 80 0 0 80, Zi (fromS a), AV.osl 1 1 0 (List.length (sharedN a b (x.1))), lvs (Spend.nl a) (Spend.lf a), Zi (↑(Spend.nl a) : Int), Zi (↑(x.1) : Int)] [some ⟨80, 1, true, Rep.lst [Spend.cells b]⟩, ilO IntKind.i64 (sharedN a b (x.1))]) (fun (x : Sp.Sub fun (x : Nat) => x ≤ Spend.nl a) => Spend.nl a - x.1) x3) ([3, 5, 8, 25, 26, 27]) ([0, 1]) ([AV.own 0 80 0 0 80, Zi (fromS a), AV.osl 1 1 0 (List.length (sharedN a b (x3.1))), AV.isl 3 a.16 fun (i j : Nat) => Zi (a.17 i j), Zi (↑a.16 : Int), Zi (IntKind.wrap IntKind.i64 ((↑x3.1 : Int) + 1))]) ([some ⟨80, 1, true, Rep.lst [Spend.cells b]⟩, some ⟨1, List.length (sharedN a b (x3.1)), true, Rep.fn fun (i j : Nat) => Zi (List.getD (sharedN a b (x3.1)) i (0 : Int))⟩]))))) (.out (AV.isl 1 (List.length (sharedN a b (x3.1))) fun (r k : Nat) => Zi (List.getD (sharedN a b (x3.1)) (r + 0) (0 : Int))) [] (il IntKind.i64 (sharedL a b)) []))))))
    (by kernel_rfl) ?_
  refine k_br (fun h0 => ?_) (fun h0 => ?_)
  · have g0 := cnd_bne_t h0
    exact k_out (Ent.nilL (shared_none h0))
  · have g0 := cnd_bne_f h0
    refine k_sc ((xspan_c a)) ?_
    refine k_loop (fun _ hs => hs.le (by repeat' (first | exact trivial | (first | exact Ent.refl _ | exact inc_ent (by omega) | exact Ent.nil rfl | exact Ent.of_eq (congrArg (AV.osl _ _ _) (by first | omega | (dsimp only; omega))) | exact Ent.of_eq (congrArg (AV.int _) (by omega))) | refine And.intro ?_ ?_)) (by repeat' (first | exact trivial | (first | exact ObEnt.refl _ | exact ObEnt.junk | exact ObEnt.zero | exact ObEnt.push rfl rfl | exact ObEnt.pushRow rfl | exact ObEnt.len (by omega) | exact ObEnt.row (by repeat' (first | exact trivial | (first | exact Ent.refl _ | exact inc_ent (by omega) | exact Ent.nil rfl | exact Ent.of_eq (congrArg (AV.osl _ _ _) (by first | omega | (dsimp only; omega))) | exact Ent.of_eq (congrArg (AV.int _) (by omega))) | refine And.intro ?_ ?_))) | refine And.intro ?_ ?_))) (fun x3 => ?_)
    try (have q3 := x3.2; dsimp only at q3)
    refine k_br (fun h4 => ?_) (fun h4 => ?_)
    · have g4 := cnd_dec_t h4
      refine k_req (by omega) ?_
      refine k_sc ((find_c b) (a.17 (Int.toNat (↑x3.1 : Int)) (0)) (by omega)) ?_
      refine k_br (fun h7 => ?_) (fun h7 => ?_)
      · have g7 := cnd_dec_t h7
        try simp only [Int.toNat_natCast] at g7
        refine k_req (by have := sharedN_len a b x3.1; omega) ?_
        exact k_again (⟨x3.1 + 1, by have := of_decide_eq_true h4; omega⟩) (fun _ hs => hs.le (⟨Ent.refl _, Ent.refl _, Ent.of_eq (congrArg (AV.osl 1 1 0) (sharedN_lt (x := x3.1) h7)), Ent.refl _, Ent.refl _, inc_ent (by omega), trivial⟩) (⟨.refl _, .pushL (sharedN_w (x := x3.1) (by omega) h7), trivial⟩)) (by (dsimp only; omega))
      · have g7 := cnd_dec_f h7
        try simp only [Int.toNat_natCast] at g7
        exact k_again (⟨x3.1 + 1, by have := of_decide_eq_true h4; omega⟩) (fun _ hs => hs.le (⟨Ent.refl _, Ent.refl _, Ent.of_eq (congrArg (AV.osl 1 1 0) (sharedN_lf (x := x3.1) h7)), Ent.refl _, Ent.refl _, inc_ent (by omega), trivial⟩) (⟨.refl _, shared_same (x := x3.1) h7, trivial⟩)) (by (dsimp only; omega))
    · have g4 := cnd_dec_f h4
      exact k_out (Ent.ilL (shared_end h0 (by have := of_decide_eq_false h4; omega)))

theorem formed2_c (a b : Spend) : Pure Tryz.prog gl0 98 [.isl 80 2 fun r k => atL (List.getD [a.cells, b.cells] r []) k] (.bool (okS a && okS b)) := by
  refine Pure.ent (Pure.via (formed_c (fun i => bif Nat.beq i 0 then a else b) 2 (by omega)) ?_) (Ent.of_eq (congrArg _ (formed2_m a b)))
  exact ⟨Ent.two (g := fun i => Spend.cells (bif Nat.beq i 0 then a else b)) rfl rfl, trivial⟩

theorem xshared_c (a b : Spend) (hn : a.nl ≤ 1000) (hb : b.nl ≤ 1000) : Pure Tryz.prog gl0 43 [a.av, b.av] (.tup [il .i64 (bif okS a && okS b then sharedL a b else []), .int .i64 (bif okS a && okS b then 0 else 1)]) := by
  refine pure_sk (own := ow0) Tryz.func43 (by kernel_rfl) mixed (by kernel_rfl)
    (let y0 : AV := (AV.tup [il IntKind.i64 (bif okS a && okS b then sharedL a b else []), Zi (bif okS a && okS b then (0 : Int) else (1 : Int))]); (.sc (true) 98 ([AV.isl 80 2 fun (r k : Nat) => atL (List.getD [Spend.cells a, Spend.cells b] (r + 0) []) k]) (AV.bool (okS a && okS b)) (.br (!(okS a && okS b)) (.out (AV.tup [AV.nsl, Zi 1]) [] y0 []) (.dc (true) 106 ([AV.agg (Spend.cells a), AV.agg (Spend.cells b)]) (il IntKind.i64 (sharedL a b)) (.out (AV.tup [AV.isl 1 (List.length (sharedL a b)) fun (i x : Nat) => Zi (List.getD (sharedL a b) i (0 : Int)), Zi 0]) [] y0 [])))))
    (by kernel_rfl) ?_
  refine k_sc ((formed2_c a b)) ?_
  refine k_br (fun h1 => ?_) (fun h1 => ?_)
  · have g1 := (cnd_not_t (cnd_and_f cnd_id_f cnd_id_f)) h1
    exact k_out (Ent.tup ⟨Ent.nilL (bif_f (not_both h1)), Ent.of_eq (congrArg _ (bif_f (not_both h1)).symm), trivial⟩)
  · have g1 := (cnd_not_f (cnd_and_t cnd_id_t cnd_id_t)) h1
    refine k_dc (shared_c (a) (b) (by assumption) (by assumption)) ?_
    exact k_out (Ent.tup ⟨Ent.ilL (bif_t (both h1)).symm, Ent.of_eq (congrArg _ (bif_t (both h1)).symm), trivial⟩)

end Go.Proofs.YtdaaddkipdmajaaGreatDoor

namespace Go.Sp
open Go Go.Am
def chalE (b : Bas) (c : Coin) (l i : Int) (x : Cxt) : Int := bif validB b then (bif nodeB c.depth l i && ctxB x.time x.number then 0 else 2) else 1
def chalK (b : Bas) (c : Coin) (l i : Int) (x : Cxt) : Int := bif validB b && (nodeB c.depth l i && ctxB x.time x.number) then chalN b.gr.q c l i x else 0
theorem validB_ok {b : Bas} (h : validB b = true) : b.gr.Ok := by
  unfold validB at h
  simp only [Bool.and_eq_true] at h
  exact validG_iff.1 h.1.1.1.1.1.1
theorem validB_q {b : Bas} (h : validB b = true) : 0 < b.gr.q ∧ b.gr.q < 2305843009213693952 := by
  have h := validB_ok h
  have := h.qp; have := h.q3; have := h.p1
  omega
theorem chal_1 {b : Bas} {c : Coin} {l i : Int} {x : Cxt} (h : validB b = false) : chalE b c l i x = 1 ∧ chalK b c l i x = 0 := by
  unfold chalE chalK; rw [h]; exact ⟨rfl, rfl⟩
theorem chal_2 {b : Bas} {c : Coin} {l i : Int} {x : Cxt} (h : validB b = true) (h' : nodeB c.depth l i = false ∨ ctxB x.time x.number = false) : chalE b c l i x = 2 ∧ chalK b c l i x = 0 := by
  have e : (nodeB c.depth l i && ctxB x.time x.number) = false := by rcases h' with e | e <;> simp [e]
  unfold chalE chalK; rw [h, e]; exact ⟨rfl, rfl⟩
theorem chal_3 {b : Bas} {c : Coin} {l i : Int} {x : Cxt} (h : validB b = true) (h' : nodeB c.depth l i = true ∧ ctxB x.time x.number = true) : chalE b c l i x = 0 ∧ chalK b c l i x = chalN b.gr.q c l i x := by
  have e : (nodeB c.depth l i && ctxB x.time x.number) = true := by simp [h']
  unfold chalE chalK; rw [h, e]; exact ⟨rfl, rfl⟩
theorem span_d {d l i : Int} (hn : nodeB d l i = true) : spanE d l i = 0 ∧ 0 ≤ l ∧ l ≤ d ∧ 0 ≤ d ∧ d ≤ 5 := by
  have h := node_t hn
  refine ⟨?_, by omega, by omega, by omega, by omega⟩
  unfold spanE
  rw [if_neg (by omega), if_pos hn]
end Go.Sp

namespace Go.Sp
open Go Go.Am
def Spend.coin (s : Spend) : Coin := ⟨s.bank, s.epoch, s.denom, s.depth, s.a, s.root, s.z, s.sa, s.sb, s.r⟩
def Spend.cxt (s : Spend) : Cxt := ⟨s.payee, s.time, s.number⟩
structure Spend.By (s : Spend) : Prop where
  root : byB s.root 32
  payee : byB s.payee 32
def chS (b : Bas) (s : Spend) : Int := chalN b.gr.q s.coin s.level s.index s.cxt
def scB (b : Bas) (x : Int) : Bool := decide (x ≥ 0) && decide (x < b.gr.q)
theorem okS_all {s : Spend} (h : okS s = true) : nodeB s.depth s.level s.index = true ∧ ctxB s.time s.number = true ∧ fromS s = spanA s.depth s.level s.index ∧ toS s = spanZ s.depth s.level s.index ∧ (s.nl : Int) = toS s - fromS s := by
  have hf : fromS s = spanA s.depth s.level s.index := by unfold fromS; rw [h]; rfl
  have ht : toS s = spanZ s.depth s.level s.index := by unfold toS; rw [h]; rfl
  have hn : nodeB s.depth s.level s.index = true := by
    cases hb : nodeB s.depth s.level s.index with
    | true => rfl
    | false =>
      exfalso
      unfold okS at h
      simp [spanE, hb] at h
      omega
  have hb := fromS_bnd s
  have hz : 0 ≤ toS s ∧ toS s ≤ 2000 := by
    rw [ht]
    unfold spanZ
    rw [if_pos hn]
    obtain ⟨h1, h2, h3, h4, h5, h6⟩ := node_t hn
    obtain ⟨q1, _, q2, q3⟩ := p2 (k := s.depth - s.level) (by omega) (by omega)
    obtain ⟨_, _, r2, r3⟩ := p2 (k := s.level) (by omega) (by omega)
    obtain ⟨b1, b2, b3, b4⟩ := bnd h5 h6 r3 q2 q3
    omega
  refine ⟨hn, ?_, hf, ht, ?_⟩
  · unfold okS at h
    unfold ctxB
    simp at h ⊢
    omega
  · unfold okS at h
    rw [← hf, ← ht, wI (by omega) (by omega)] at h
    simp at h
    omega
theorem okS_nl {s : Spend} (h : okS s = true) : toS s ≤ 2000 := by
  obtain ⟨hn, _, _, ht, _⟩ := okS_all h
  rw [ht]
  unfold spanZ
  rw [if_pos hn]
  obtain ⟨h1, h2, h3, h4, h5, h6⟩ := node_t hn
  obtain ⟨q1, _, q2, q3⟩ := p2 (k := s.depth - s.level) (by omega) (by omega)
  obtain ⟨_, _, r2, r3⟩ := p2 (k := s.level) (by omega) (by omega)
  obtain ⟨b1, b2, b3, b4⟩ := bnd h5 h6 r3 q2 q3
  omega
def mateS (s t : Spend) (i : Nat) : Nat := (firstI (fun k => t.lf k 0 == s.lf i 0) t.nl 0).toNat
def leafN (s : Spend) (leaf : Int) : Nat := (leaf - fromS s).toNat
noncomputable def secR (b : Bas) (s t : Spend) (leaf : Int) : Int × Int :=
  if validB b = false ∨ (okS s && okS t) = false then (0, 1)
  else if leaf < fromS s ∨ toS s ≤ leaf then (0, 2)
  else if ¬ (s.a = t.a ∧ found t (s.lf (leafN s leaf) 0) = true) then (0, 7)
  else if scB b (s.lf (leafN s leaf) 1) = false ∨ scB b (s.lf (leafN s leaf) 2) = false ∨ scB b (t.lf (mateS s t (leafN s leaf)) 1) = false ∨ scB b (t.lf (mateS s t (leafN s leaf)) 2) = false then (0, 2)
  else if chS b s = chS b t then (0, 20)
  else if s.lf (leafN s leaf) 2 = t.lf (mateS s t (leafN s leaf)) 2 then (0, 10)
  else ((s.lf (leafN s leaf) 1 - t.lf (mateS s t (leafN s leaf)) 1) % b.gr.q * invF ((s.lf (leafN s leaf) 2 - t.lf (mateS s t (leafN s leaf)) 2) % b.gr.q) b.gr.q % b.gr.q, 0)
theorem shared_has {s t : Spend} {leaf : Int} (h : okS s = true) (h1 : ¬ (leaf < fromS s ∨ toS s ≤ leaf)) : leaf ∈ sharedL s t ↔ (s.a = t.a ∧ found t (s.lf (leafN s leaf) 0) = true) := by
  obtain ⟨_, _, _, _, hn⟩ := okS_all h
  unfold sharedL
  by_cases ha : s.a = t.a
  · rw [if_neg (by simp [ha])]
    unfold sharedN leafN
    simp only [List.mem_map, List.mem_filter, List.mem_range]
    constructor
    · rintro ⟨i, ⟨hi, hf⟩, rfl⟩
      refine ⟨ha, ?_⟩
      rw [show (fromS s + (i : Int) - fromS s).toNat = i by omega]
      exact hf
    · rintro ⟨_, hf⟩
      exact ⟨(leaf - fromS s).toNat, ⟨by omega, hf⟩, by omega⟩
  · rw [if_pos ha]
    simp [ha]
theorem mate_lt {s t : Spend} {i : Nat} (h : found t (s.lf i 0) = true) : mateS s t i < t.nl ∧ firstI (fun k => t.lf k 0 == s.lf i 0) t.nl 0 = (mateS s t i : Nat) := by
  have h0 : firstI (fun k => t.lf k 0 == s.lf i 0) t.nl 0 ≥ 0 := of_decide_eq_true h
  have h1 := firstI_lt (p := fun k => t.lf k 0 == s.lf i 0) t.nl 0
  unfold mateS
  constructor <;> omega
theorem first_mem {l : List Int} {v : Int} : (decide (firstI (fun i => l.getD i 0 == v) l.length 0 ≥ 0)) = decide (v ∈ l) := by
  rw [firstI_neg]
  rw [Bool.eq_iff_iff]
  simp only [Nat.zero_add, List.any_eq_true, List.mem_range, beq_iff_eq, decide_eq_true_eq]
  constructor
  · rintro ⟨i, hi, rfl⟩
    rw [List.getD_eq_getElem?_getD, List.getElem?_eq_getElem hi]
    exact List.getElem_mem hi
  · intro h
    obtain ⟨i, hi, rfl⟩ := List.mem_iff_getElem.1 h
    exact ⟨i, hi, by rw [List.getD_eq_getElem?_getD, List.getElem?_eq_getElem hi]; rfl⟩
theorem leaf_w {s : Spend} {leaf : Int} (h : okS s = true) (h1 : ¬ (leaf < fromS s ∨ toS s ≤ leaf)) : 0 ≤ IntKind.wrap .i64 (leaf - fromS s) ∧ IntKind.wrap .i64 (leaf - fromS s) < s.nl ∧ Int.toNat (IntKind.wrap .i64 (leaf - fromS s)) = leafN s leaf := by
  obtain ⟨_, _, _, _, hn⟩ := okS_all h
  have hb := fromS_bnd s
  have hz : toS s ≤ 2000 := by
    have := okS_nl h
    omega
  rw [wI (by omega) (by omega)]
  exact ⟨by omega, by omega, rfl⟩
theorem sec_1 {b : Bas} {s t : Spend} {leaf : Int} (h : validB b = false ∨ okS s = false ∨ okS t = false) : secR b s t leaf = (0, 1) := by
  unfold secR; grind
theorem sec_2 {b : Bas} {s t : Spend} {leaf : Int} (h : validB b = true ∧ okS s = true ∧ okS t = true) (h1 : leaf < fromS s ∨ toS s ≤ leaf) : secR b s t leaf = (0, 2) := by
  unfold secR; grind
theorem sec_3 {b : Bas} {s t : Spend} {leaf : Int} (h : validB b = true ∧ okS s = true ∧ okS t = true) (h1 : ¬ (leaf < fromS s ∨ toS s ≤ leaf)) (h2 : ¬ leaf ∈ sharedL s t) : secR b s t leaf = (0, 7) := by
  rw [shared_has h.2.1 h1] at h2
  unfold secR; grind
theorem sec_4 {b : Bas} {s t : Spend} {leaf : Int} (h : validB b = true ∧ okS s = true ∧ okS t = true) (h1 : ¬ (leaf < fromS s ∨ toS s ≤ leaf)) (h2 : leaf ∈ sharedL s t)
    (h3 : scB b (s.lf (leafN s leaf) 1) = false ∨ scB b (s.lf (leafN s leaf) 2) = false ∨ scB b (t.lf (mateS s t (leafN s leaf)) 1) = false ∨ scB b (t.lf (mateS s t (leafN s leaf)) 2) = false) : secR b s t leaf = (0, 2) := by
  rw [shared_has h.2.1 h1] at h2
  unfold secR; grind
theorem sec_5 {b : Bas} {s t : Spend} {leaf : Int} (h : validB b = true ∧ okS s = true ∧ okS t = true) (h1 : ¬ (leaf < fromS s ∨ toS s ≤ leaf)) (h2 : leaf ∈ sharedL s t)
    (h3 : scB b (s.lf (leafN s leaf) 1) = true ∧ scB b (s.lf (leafN s leaf) 2) = true ∧ scB b (t.lf (mateS s t (leafN s leaf)) 1) = true ∧ scB b (t.lf (mateS s t (leafN s leaf)) 2) = true) (h4 : chS b s = chS b t) : secR b s t leaf = (0, 20) := by
  rw [shared_has h.2.1 h1] at h2
  unfold secR; grind
theorem sec_6 {b : Bas} {s t : Spend} {leaf : Int} (h : validB b = true ∧ okS s = true ∧ okS t = true) (h1 : ¬ (leaf < fromS s ∨ toS s ≤ leaf)) (h2 : leaf ∈ sharedL s t)
    (h3 : scB b (s.lf (leafN s leaf) 1) = true ∧ scB b (s.lf (leafN s leaf) 2) = true ∧ scB b (t.lf (mateS s t (leafN s leaf)) 1) = true ∧ scB b (t.lf (mateS s t (leafN s leaf)) 2) = true) (h4 : ¬ chS b s = chS b t)
    (h5 : s.lf (leafN s leaf) 2 = t.lf (mateS s t (leafN s leaf)) 2) : secR b s t leaf = (0, 10) := by
  rw [shared_has h.2.1 h1] at h2
  unfold secR; grind
theorem sec_7 {b : Bas} {s t : Spend} {leaf : Int} (h : validB b = true ∧ okS s = true ∧ okS t = true) (h1 : ¬ (leaf < fromS s ∨ toS s ≤ leaf)) (h2 : leaf ∈ sharedL s t)
    (h3 : scB b (s.lf (leafN s leaf) 1) = true ∧ scB b (s.lf (leafN s leaf) 2) = true ∧ scB b (t.lf (mateS s t (leafN s leaf)) 1) = true ∧ scB b (t.lf (mateS s t (leafN s leaf)) 2) = true) (h4 : ¬ chS b s = chS b t)
    (h5 : ¬ s.lf (leafN s leaf) 2 = t.lf (mateS s t (leafN s leaf)) 2) : secR b s t leaf = ((s.lf (leafN s leaf) 1 - t.lf (mateS s t (leafN s leaf)) 1) % b.gr.q * invF ((s.lf (leafN s leaf) 2 - t.lf (mateS s t (leafN s leaf)) 2) % b.gr.q) b.gr.q % b.gr.q, 0) := by
  rw [shared_has h.2.1 h1] at h2
  unfold secR
  rw [if_neg (by simp [h]), if_neg h1, if_neg (by simp [h2]), if_neg (by simp [h3]), if_neg h4, if_neg h5]
theorem scB_t {b : Bas} {x : Int} (h : scB b x = true) : 0 ≤ x ∧ x < b.gr.q := by
  unfold scB at h
  simpa using h
theorem sub_q {x y q : Int} (hx : 0 ≤ x ∧ x < q) (hy : 0 ≤ y ∧ y < q) (hq : q < 2305843009213693952) : Int.tmod (IntKind.wrap .i64 (IntKind.wrap .i64 (x - y) + q)) q = (x - y) % q ∧ 0 ≤ (x - y) % q ∧ (x - y) % q < q := by
  rw [wI (n := x - y) (by omega) (by omega), wI (by omega) (by omega), tmod_nn (by omega), Int.add_emod_right]
  exact ⟨rfl, Int.emod_nonneg _ (by omega), Int.emod_lt_of_pos _ (by omega)⟩
theorem chS_of {b : Bas} {s : Spend} (h : validB b = true) (h' : okS s = true) : chalE b s.coin s.level s.index s.cxt = 0 ∧ chalK b s.coin s.level s.index s.cxt = chS b s :=
  have h2 := okS_all h'
  chal_3 h ⟨h2.1, h2.2.1⟩
theorem sharedL_len (s t : Spend) : (sharedL s t).length ≤ s.nl := by
  unfold sharedL
  split
  · exact Nat.zero_le _
  · exact sharedN_len _ _ _
theorem or4 {A B C D : Prop} (h : ((A ∨ B) ∨ C) ∨ D) : A ∨ B ∨ C ∨ D := by rcases h with ((h | h) | h) | h <;> simp [h]
theorem and4 {A B C D : Prop} (h : ((A ∧ B) ∧ C) ∧ D) : A ∧ B ∧ C ∧ D := ⟨h.1.1.1, h.1.1.2, h.1.2, h.2⟩
theorem sub_r {x y q : Int} (hx : 0 ≤ x ∧ x < q) (hy : 0 ≤ y ∧ y < q) (hq : q < 2305843009213693952) : Int.tmod (IntKind.wrap .i64 (IntKind.wrap .i64 (x + q) - y)) q = (x - y) % q ∧ 0 ≤ (x - y) % q ∧ (x - y) % q < q := by
  rw [wI (n := x + q) (by omega) (by omega), wI (by omega) (by omega), tmod_nn (by omega), show x + q - y = (x - y) + q by omega, Int.add_emod_right]
  exact ⟨rfl, Int.emod_nonneg _ (by omega), Int.emod_lt_of_pos _ (by omega)⟩
def partI (s t : Spend) (i : Nat) : Int := if s.a = t.a then firstI (fun k => t.lf k 0 == s.lf i 0) t.nl 0 else -1
theorem part_has {s t : Spend} {leaf : Int} (h : okS s = true) (h1 : ¬ (leaf < fromS s ∨ toS s ≤ leaf)) : ¬ partI s t (leafN s leaf) < 0 ↔ leaf ∈ sharedL s t := by
  rw [shared_has h h1]
  unfold partI found
  by_cases ha : s.a = t.a
  · rw [if_pos ha]; simp [ha]
  · rw [if_neg ha]; simp [ha]
theorem part_mate {s t : Spend} {i : Nat} (h : ¬ partI s t i < 0) : partI s t i = mateS s t i ∧ mateS s t i < t.nl := by
  unfold partI at h ⊢
  by_cases ha : s.a = t.a
  · rw [if_pos ha] at h ⊢
    have := mate_lt (s := s) (t := t) (i := i) (decide_eq_true (by omega))
    exact ⟨this.2, this.1⟩
  · rw [if_neg ha] at h
    omega
theorem leaf_r {s : Spend} {leaf : Int} (h : okS s = true) (hl : leaf ≤ 9223372036854775807) : ((leaf < 0 ∨ IntKind.wrap .i64 (leaf - fromS s) < 0) ∨ IntKind.wrap .i64 (leaf - fromS s) ≥ s.nl) ↔ (leaf < fromS s ∨ toS s ≤ leaf) := by
  obtain ⟨_, _, _, _, hn⟩ := okS_all h
  have hb := fromS_bnd s
  by_cases h0 : leaf < 0
  · constructor
    · intro _; left; omega
    · intro _; left; left; exact h0
  · rw [wI (by omega) (by omega)]
    omega
theorem sec_k {s t : Spend} {leaf : Int} (h : okS s = true) (hl : leaf ≤ 9223372036854775807) (h6 : (¬ leaf < 0 ∧ ¬ IntKind.wrap .i64 (leaf - fromS s) < 0) ∧ ¬ IntKind.wrap .i64 (leaf - fromS s) ≥ s.nl)
    (h9 : ¬ partI s t (Int.toNat (IntKind.wrap .i64 (leaf - fromS s))) < 0) : ¬ (leaf < fromS s ∨ toS s ≤ leaf) ∧ leaf ∈ sharedL s t ∧ Int.toNat (IntKind.wrap .i64 (leaf - fromS s)) = leafN s leaf ∧
    Int.toNat (partI s t (leafN s leaf)) = mateS s t (leafN s leaf) ∧ 0 ≤ partI s t (leafN s leaf) ∧ partI s t (leafN s leaf) < t.nl := by
  have nl : ¬ (leaf < fromS s ∨ toS s ≤ leaf) := fun hh => by
    have := (leaf_r h hl).2 hh
    omega
  have e := (leaf_w h nl).2.2
  rw [e] at h9
  have pm := part_mate h9
  exact ⟨nl, (part_has h nl).1 h9, e, by rw [pm.1, Int.toNat_natCast], by omega, by omega⟩
def exX : Spend := { Spend.zero with a := 8, nl := 1, lf := fun _ k => [4, 4, 9].getD k 0 }
def exY (n : Int) : Spend := { Spend.zero with a := 8, number := n, nl := 1, lf := fun _ k => [4, 6, 1].getD k 0 }
def exB : Bas := ⟨⟨23, 11, 4⟩, 2, 3, 6⟩
theorem exB_ok : validB exB = true := by decide +kernel
theorem exX_ok : okS exX = true := by decide +kernel
theorem exY_ok {n : Int} (h0 : 0 ≤ n) (h1 : n ≤ 1000) : okS (exY n) = true := by
  have e : okS (exY n) = (!(decide (n < 0) || decide (n > 1073741824))) := by
    unfold okS
    have a : spanE (exY n).depth (exY n).level (exY n).index = 0 := by show spanE 0 0 0 = 0; decide
    have c : spanZ (exY n).depth (exY n).level (exY n).index = 1 := by show spanZ 0 0 0 = 1; decide
    have d : spanA (exY n).depth (exY n).level (exY n).index = 0 := by show spanA 0 0 0 = 0; decide
    rw [a, c, d]
    rfl
  rw [e]
  simp; omega
theorem ex_by : exX.By := ⟨fun _ _ => by show (0 : Int) ≤ 0 ∧ (0 : Int) < 256; decide, fun _ _ => by show (0 : Int) ≤ 0 ∧ (0 : Int) < 256; decide⟩
theorem ey_by (n : Int) : (exY n).By := ⟨fun _ _ => by show (0 : Int) ≤ 0 ∧ (0 : Int) < 256; decide, fun _ _ => by show (0 : Int) ≤ 0 ∧ (0 : Int) < 256; decide⟩
theorem ex_shared (n : Int) : sharedL exX (exY n) = [0] := rfl
theorem ex_w : exB.gr.W := ⟨by decide, by decide⟩
theorem ex_secR {n : Int} (h0 : 0 ≤ n) (h1 : n ≤ 1000) (h : ¬ chS exB exX = chS exB (exY n)) : secR exB exX (exY n) 0 = (8, 0) := by
  have hf : fromS exX = 0 := by decide +kernel
  have ht : toS exX = 1 := by decide +kernel
  have hm : (0 : Int) ∈ sharedL exX (exY n) := by rw [ex_shared]; simp
  have hl : leafN exX 0 = 0 := by unfold leafN; rw [hf]; rfl
  have hk : mateS exX (exY n) 0 = 0 := rfl
  rw [sec_7 ⟨exB_ok, exX_ok, exY_ok h0 h1⟩ (by omega) hm (by rw [hl, hk]; exact ⟨rfl, rfl, rfl, rfl⟩) h (by rw [hl, hk]; show ¬ (9 : Int) = 1; decide), hl, hk]
  have hi : invF 8 11 = 7 := invF_eq (by decide) (by decide)
  show ((4 - 6 : Int) % 11 * invF ((9 - 1) % 11) 11 % 11, (0 : Int)) = (8, 0)
  rw [show ((9 - 1 : Int) % 11) = 8 by decide, hi]
  rfl
theorem exX_ent {os : List (Option Ob)} : EntL os (Spend.cw exX (.isl 3 1 fun r k => atL (List.getD [[.int .i64 4, .int .i64 4, .int .i64 9]] r []) k) .nsl) exX.cells :=
  cw_ent exX (Ent.rows fun i hi => by
    obtain rfl : i = 0 := Nat.lt_one_iff.1 hi
    rfl) Ent.nsl
theorem exY_ent {os : List (Option Ob)} (n : Int) : EntL os (Spend.cw (exY n) (.isl 3 1 fun r k => atL (List.getD [[.int .i64 4, .int .i64 6, .int .i64 1]] r []) k) .nsl) (exY n).cells :=
  cw_ent (exY n) (Ent.rows fun i hi => by
    obtain rfl : i = 0 := Nat.lt_one_iff.1 hi
    rfl) Ent.nsl
theorem few_nl {s t : Spend} (h : fewB s = true ∧ fewB t = true) : s.nl ≤ 1000 ∧ t.nl ≤ 1000 := by
  simp [fewB] at h
  omega
def sharedM (a b : Spend) (x : Nat) : List Int := ((List.range x).filter fun i => decide (partI a b i ≥ 0)).map fun (i : Nat) => fromS a + (i : Int)
theorem sharedM_t {a b : Spend} {x : Nat} (hx : x ≤ 1000) (h : partI a b x ≥ 0) : sharedM a b (x + 1) = sharedM a b x ++ [IntKind.wrap .i64 (fromS a + x)] := by
  have := fromS_bnd a
  rw [wI (by omega) (by omega)]
  simp [sharedM, List.range_succ, List.filter_append, h]
theorem sharedM_f {a b : Spend} {x : Nat} (h : ¬ partI a b x ≥ 0) : sharedM a b (x + 1) = sharedM a b x := by
  simp [sharedM, List.range_succ, List.filter_append, h]
theorem sharedM_lt {a b : Spend} {x : Nat} (hx : x ≤ 1000) (h : partI a b x ≥ 0) : (sharedM a b x).length + 1 = (sharedM a b (x + 1)).length := by rw [sharedM_t hx h]; simp
theorem sharedM_lf {a b : Spend} {x : Nat} (h : ¬ partI a b x ≥ 0) : (sharedM a b x).length = (sharedM a b (x + 1)).length := by rw [sharedM_f h]
theorem sharedM_len (a b : Spend) (x : Nat) : (sharedM a b x).length ≤ x := by
  unfold sharedM
  rw [List.length_map]
  have := List.length_filter_le (fun i => decide (partI a b i ≥ 0)) (List.range x)
  simpa using this
theorem sharedM_end {a b : Spend} {x : Nat} (h : okS a = true ∧ okS b = true) (hx : x = a.nl) : sharedM a b x = bif okS a && okS b then sharedL a b else [] := by
  subst hx
  rw [h.1, h.2]
  show sharedM a b a.nl = sharedL a b
  unfold sharedM sharedL sharedN
  by_cases e : a.a = b.a
  · rw [if_neg (by simp [e])]
    congr 1
    refine List.filter_congr fun i _ => ?_
    unfold partI found
    rw [if_pos e]
  · rw [if_pos e]
    have : (List.range a.nl).filter (fun i => decide (partI a b i ≥ 0)) = [] := List.filter_eq_nil_iff.2 fun i _ => by
      unfold partI
      rw [if_neg e]
      decide
    rw [this]
    rfl
theorem sharedM_same {os : List (Option Ob)} {a b : Spend} {x : Nat} (h : ¬ partI a b x ≥ 0) : ObEnt os ⟨1, (sharedM a b x).length, true, .fn (ilF .i64 (sharedM a b x))⟩ ⟨1, (sharedM a b (x + 1)).length, true, .fn (ilF .i64 (sharedM a b (x + 1)))⟩ := by
  rw [sharedM_f h]; exact .refl _
theorem not_ok2 {a b : Spend} (h : okS a = false ∨ okS b = false) : (okS a && okS b) = false := by rcases h with h | h <;> simp [h]
theorem yes_ok2 {a b : Spend} (h : okS a = true ∧ okS b = true) : (okS a && okS b) = true := by simp [h]
end Go.Sp
