/- Part of the proof: LL16, LL17, LL18, LL19, EnShp. -/
import Derived.Test.YtbmdmoknnlhdoaaDoorM5
import Derived.Test.YtbmdmoknnlhdoaaDoorProg
import Derived.Shelf.Strings.BuilderK
import Derived.Test.YtbmdmoknnlhdoaaDoorM3
import Derived.HandedShaped
import Derived.Shelf.Vars
namespace Go.Proofs.YtbmdmoknnlhdoaaDoor
open Go Go.Am Go.Sp Go.Lib Go.RowKit
set_option maxRecDepth 100000

theorem dec_1 (m : GP) (n : Nat) (hn : n < 10) : Pure Tryd.prog (gl0 m) 19 [.int .i64 (n : Int)] (.str (bs (decDigits n))) := by
  refine pure_sk (own := ow0) Tryd.func19 (by kernel_rfl) mixed (by kernel_rfl)
    (.br (decide ((↑n : Int) < (0 : Int))) (.br (decide ((↑n : Int) > (-10 : Int))) .no .no) (.br (decide ((↑n : Int) > (9 : Int))) .no (.out (AV.str (strOfNums [IntKind.wrap IntKind.u8 (IntKind.wrap IntKind.i64 ((48 : Int) + (↑n : Int)))])) [] (AV.str (bs (decDigits n))) [])))
    (by kernel_rfl) ?_
  refine k_br (fun h0 => ?_) (fun h0 => ?_)
  · have g0 := cnd_dec_t h0
    refine k_br (fun h1 => ?_) (fun h1 => ?_)
    · have g1 := cnd_dec_t h1
      exact (show False from (by exfalso; omega))
    · have g1 := cnd_dec_f h1
      exact (show False from (by exfalso; omega))
  · have g0 := cnd_dec_f h0
    refine k_br (fun h4 => ?_) (fun h4 => ?_)
    · have g4 := cnd_dec_t h4
      exact (show False from (by exfalso; omega))
    · have g4 := cnd_dec_f h4
      exact k_out ((by first | (exfalso; omega) | exact Ent.of_eq (congrArg AV.str (dig_str hn))))

theorem dec_2 (m : GP) (n : Nat) (hn : 10 ≤ n) (A B : Str) (hab : A ++ B = decDigits n) (hl : A.length ≤ 100 ∧ B.length ≤ 100) (c1 : Pure Tryd.prog (gl0 m) 19 [.int .i64 (IntKind.wrap IntKind.i64 (Int.tdiv (n : Int) (10 : Int)))] (.str (bs A))) (c2 : Pure Tryd.prog (gl0 m) 19 [.int .i64 (Int.tmod (n : Int) (10 : Int))] (.str (bs B))) :
    Pure Tryd.prog (gl0 m) 19 [.int .i64 (n : Int)] (.str (bs (decDigits n))) := by
  have za := bs_size A
  have zb := bs_size B
  refine pure_sk (own := ow0) Tryd.func19 (by kernel_rfl) mixed (by kernel_rfl)
    (.br (decide ((↑n : Int) < (0 : Int))) (.br (decide ((↑n : Int) > (-10 : Int))) .no .no) (.br (decide ((↑n : Int) > (9 : Int))) (.sc (true) 19 ([Zi (IntKind.wrap IntKind.i64 (Int.tdiv (↑n : Int) (10 : Int)))]) (AV.str (bs A)) (.sc (true) 19 ([Zi (Int.tmod (↑n : Int) (10 : Int))]) (AV.str (bs B)) (.req (ByteArray.size (bs A) + ByteArray.size (bs B) ≤ 9223372036854775807) (.out (AV.str (bs A ++ bs B)) [] (AV.str (bs (decDigits n))) [])))) (.out (AV.str (strOfNums [IntKind.wrap IntKind.u8 (IntKind.wrap IntKind.i64 ((48 : Int) + (↑n : Int)))])) [] (AV.str (bs (decDigits n))) [])))
    (by kernel_rfl) ?_
  refine k_br (fun h0 => ?_) (fun h0 => ?_)
  · have g0 := cnd_dec_t h0
    refine k_br (fun h1 => ?_) (fun h1 => ?_)
    · have g1 := cnd_dec_t h1
      exact (show False from (by exfalso; omega))
    · have g1 := cnd_dec_f h1
      exact (show False from (by exfalso; omega))
  · have g0 := cnd_dec_f h0
    refine k_br (fun h4 => ?_) (fun h4 => ?_)
    · have g4 := cnd_dec_t h4
      refine k_sc (c1) ?_
      refine k_sc (c2) ?_
      refine k_req (by first | omega | (simp only [Int.toNat_natCast]; omega)) ?_
      exact k_out ((by first | (exfalso; omega) | exact Ent.of_eq (congrArg AV.str (by rw [bs_app, hab]))))
    · have g4 := cnd_dec_f h4
      exact k_out ((by first | (exfalso; omega) | exact Ent.of_eq (congrArg AV.str (by rw [bs_app, hab]))))

theorem word_c (m : GP) (a : Cmd) : Pure Tryd.prog (gl0 m) 36 [.agg a.cells] (.str (bs (wordK a))) := by
  refine pure_sk (own := ow0) Tryd.func36 (by kernel_rfl) mixed (by kernel_rfl)
    (.br (a.1 == (1 : Int)) (.out (AV.str { data := #[(119 : UInt8), (105 : UInt8), (116 : UInt8), (104 : UInt8), (100 : UInt8), (114 : UInt8), (97 : UInt8), (119 : UInt8)] }) [] (AV.str (bs (wordK a))) []) (.br (a.1 == (2 : Int)) (.out (AV.str { data := #[(112 : UInt8), (97 : UInt8), (121 : UInt8)] }) [] (AV.str (bs (wordK a))) []) (.br (a.1 == (3 : Int)) (.out (AV.str { data := #[(116 : UInt8), (114 : UInt8), (97 : UInt8), (110 : UInt8), (115 : UInt8), (102 : UInt8), (101 : UInt8), (114 : UInt8)] }) [] (AV.str (bs (wordK a))) []) (.br (a.1 == (4 : Int)) (.br (a.3 == (0 : Int)) (.out (AV.str { data := #[(100 : UInt8), (101 : UInt8), (112 : UInt8), (111 : UInt8), (115 : UInt8), (105 : UInt8), (116 : UInt8), (32 : UInt8), (109 : UInt8), (101 : UInt8), (114 : UInt8), (99 : UInt8), (104 : UInt8), (97 : UInt8), (110 : UInt8), (116 : UInt8)] }) [] (AV.str (bs (wordK a))) []) (.br (a.3 == (1 : Int)) (.out (AV.str { data := #[(100 : UInt8), (101 : UInt8), (112 : UInt8), (111 : UInt8), (115 : UInt8), (105 : UInt8), (116 : UInt8), (32 : UInt8), (104 : UInt8), (111 : UInt8), (108 : UInt8), (100 : UInt8), (101 : UInt8), (114 : UInt8)] }) [] (AV.str (bs (wordK a))) []) (.out (AV.str { data := #[] }) [] (AV.str (bs (wordK a))) []))) (.br (a.1 == (5 : Int)) (.out (AV.str { data := #[(100 : UInt8), (111 : UInt8), (117 : UInt8), (98 : UInt8), (108 : UInt8), (101 : UInt8)] }) [] (AV.str (bs (wordK a))) []) (.br (a.1 == (6 : Int)) (.out (AV.str { data := #[(116 : UInt8), (114 : UInt8), (97 : UInt8), (99 : UInt8), (101 : UInt8)] }) [] (AV.str (bs (wordK a))) []) (.br (a.1 == (7 : Int)) (.out (AV.str { data := #[(99 : UInt8), (108 : UInt8), (101 : UInt8), (97 : UInt8), (114 : UInt8)] }) [] (AV.str (bs (wordK a))) []) (.br (a.1 == (8 : Int)) (.out (AV.str { data := #[(116 : UInt8), (105 : UInt8), (99 : UInt8), (107 : UInt8)] }) [] (AV.str (bs (wordK a))) []) (.out (AV.str { data := #[] }) [] (AV.str (bs (wordK a))) [])))))))))
    (by kernel_rfl) ?_
  refine k_br (fun h0 => ?_) (fun h0 => ?_)
  · have g0 := cnd_beq_t h0
    exact k_out ((by first | (exfalso; omega) | exact Ent.of_eq (congrArg AV.str (by simp [wordK, *] <;> rfl))))
  · have g0 := cnd_beq_f h0
    refine k_br (fun h2 => ?_) (fun h2 => ?_)
    · have g2 := cnd_beq_t h2
      exact k_out ((by first | (exfalso; omega) | exact Ent.of_eq (congrArg AV.str (by simp [wordK, *] <;> rfl))))
    · have g2 := cnd_beq_f h2
      refine k_br (fun h4 => ?_) (fun h4 => ?_)
      · have g4 := cnd_beq_t h4
        exact k_out ((by first | (exfalso; omega) | exact Ent.of_eq (congrArg AV.str (by simp [wordK, *] <;> rfl))))
      · have g4 := cnd_beq_f h4
        refine k_br (fun h6 => ?_) (fun h6 => ?_)
        · have g6 := cnd_beq_t h6
          refine k_br (fun h7 => ?_) (fun h7 => ?_)
          · have g7 := cnd_beq_t h7
            exact k_out ((by first | (exfalso; omega) | exact Ent.of_eq (congrArg AV.str (by simp [wordK, *] <;> rfl))))
          · have g7 := cnd_beq_f h7
            refine k_br (fun h9 => ?_) (fun h9 => ?_)
            · have g9 := cnd_beq_t h9
              exact k_out ((by first | (exfalso; omega) | exact Ent.of_eq (congrArg AV.str (by simp [wordK, *] <;> rfl))))
            · have g9 := cnd_beq_f h9
              exact k_out ((by first | (exfalso; omega) | exact Ent.of_eq (congrArg AV.str (by simp [wordK, *] <;> rfl))))
        · have g6 := cnd_beq_f h6
          refine k_br (fun h12 => ?_) (fun h12 => ?_)
          · have g12 := cnd_beq_t h12
            exact k_out ((by first | (exfalso; omega) | exact Ent.of_eq (congrArg AV.str (by simp [wordK, *] <;> rfl))))
          · have g12 := cnd_beq_f h12
            refine k_br (fun h14 => ?_) (fun h14 => ?_)
            · have g14 := cnd_beq_t h14
              exact k_out ((by first | (exfalso; omega) | exact Ent.of_eq (congrArg AV.str (by simp [wordK, *] <;> rfl))))
            · have g14 := cnd_beq_f h14
              refine k_br (fun h16 => ?_) (fun h16 => ?_)
              · have g16 := cnd_beq_t h16
                exact k_out ((by first | (exfalso; omega) | exact Ent.of_eq (congrArg AV.str (by simp [wordK, *] <;> rfl))))
              · have g16 := cnd_beq_f h16
                refine k_br (fun h18 => ?_) (fun h18 => ?_)
                · have g18 := cnd_beq_t h18
                  exact k_out ((by first | (exfalso; omega) | exact Ent.of_eq (congrArg AV.str (by simp [wordK, *] <;> rfl))))
                · have g18 := cnd_beq_f h18
                  exact k_out ((by first | (exfalso; omega) | exact Ent.of_eq (congrArg AV.str (by simp [wordK, *] <;> rfl))))

theorem dec_c (m : GP) : ∀ (n : Nat), n < 9223372036854775807 → Pure Tryd.prog (gl0 m) 19 [.int .i64 (n : Int)] (.str (bs (decDigits n))) := fun n => by
  induction n using Nat.strongRecOn with
  | _ n ih =>
    intro hn
    by_cases h : n < 10
    · exact dec_1 m n h
    · have l1 := nDigits_le (show n / 10 < 9223372036854775807 by omega)
      have l2 := nDigits_le (show n % 10 < 9223372036854775807 by omega)
      refine dec_2 m n (by omega) (decDigits (n / 10)) (decDigits (n % 10)) (dec_step (by omega)).symm ⟨by rw [decDigits_length]; omega, by rw [decDigits_length]; omega⟩ ?_ ?_
      · rw [show Int.tdiv (n : Int) (10 : Int) = ((n / 10 : Nat) : Int) from tdiv_n n 10, wI (by omega) (by omega)]
        exact ih (n / 10) (by omega) (by omega)
      · rw [show Int.tmod (n : Int) (10 : Int) = ((n % 10 : Nat) : Int) from tmod_n n 10]
        exact ih (n % 10) (by omega) (by omega)

theorem deci_c (m : GP) (n : Int) (h : 0 ≤ n ∧ n ≤ 1099511627776) : Pure Tryd.prog (gl0 m) 19 [.int .i64 n] (.str (bs (itoa n))) := by
  have := dec_c m n.toNat (by omega)
  rw [itoaN h.1]
  rwa [Int.toNat_of_nonneg h.1] at this

theorem rtext_c (m : GP) (a : Cmd) (ha : NumOk a) : Pure Tryd.prog (gl0 m) 15 [.agg a.cells] (.str (bs (textR a))) := by
  have c1 := word_c m a
  have c2 := numbers_c m a
  have c3 := fun j (h : j < (numsK a).length) => deci_c m ((numsK a).getD j 0) (ha j h)
  have hn := numsK_le a
  refine pure_sk (own := ow0) Tryd.func15 (by kernel_rfl) mixed (by kernel_rfl)
    (.sc (true) 36 ([AV.agg (Cmd.cells a)]) (AV.str (bs (wordK a))) (.dc (true) 37 ([AV.agg (Cmd.cells a)]) (AV.isl (1 : Nat) (List.length (numsK a)) fun (i x : Nat) => Zi (List.getD (numsK a) i (0 : Int))) (.loop ({ x : Nat // x ≤ List.length (numsK a) ∧ (fun (x : Nat) => True) x }) (fun (x : { x : Nat // x ≤ List.length (numsK a) ∧ (fun (x : Nat) => True) x }) => mkSt [4, 3, 5] [AV.isl (1) (List.length (numsK a)) fun (i x : Nat) => Zi (List.getD (numsK a) i (0 : Int)), AV.str (bs (txtN a (x.1))), Zi (↑(x.1) : Int)] []) (fun (x : { x : Nat // x ≤ List.length (numsK a) ∧ (fun (x : Nat) => True) x }) => List.length (numsK a) - x.1) (⟨(0 : Nat), ⟨Nat.zero_le (List.length (numsK a)), trivial⟩⟩) ([4, 3, 5]) ([]) ([AV.isl (1) (List.length (numsK a)) fun (i x : Nat) => Zi (List.getD (numsK a) i (0 : Int)), AV.str (bs (wordK a)), Zi 0]) ([]) (fun x2 => (.br (decide ((↑x2.1 : Int) < (↑(List.length (numsK a)) : Int))) (.req (ByteArray.size (bs (txtN a x2.1)) + 1 ≤ 9223372036854775807) (.req ((0 : Int) ≤ (↑x2.1 : Int) ∧ (↑x2.1 : Int) < (↑(List.length (numsK a)) : Int)) (.sc (true) 19 ([Zi (List.getD (numsK a) (Int.toNat (↑x2.1 : Int)) (0 : Int))]) (AV.str (bs (itoa (List.getD (numsK a) (Int.toNat (↑x2.1 : Int)) (0 : Int))))) (.req (ByteArray.size (bs (txtN a x2.1) ++ { data := #[(32 : UInt8)] }) + ByteArray.size (bs (itoa (List.getD (numsK a) (Int.toNat (↑x2.1 : Int)) (0 : Int)))) ≤ 9223372036854775807) (.again (Again (0) (fun (x : { x : Nat // x ≤ List.length (numsK a) ∧ (fun (x : Nat) => True) x }) => mkSt [4, 3, 5] [AV.isl (1) (List.length (numsK a)) fun (i x : Nat) => Zi (List.getD (numsK a) i (0 : Int)), AV.str (bs (txtN a (x.1))), Zi (↑(x.1) : Int)] []) (fun (x : { x : Nat // x ≤ List.length (numsK a) ∧ (fun (x : Nat) => True) x }) => List.length (numsK a) - x.1) x2) ([4, 3, 5]) ([]) ([AV.isl (1) (List.length (numsK a)) fun (i x : Nat) => Zi (List.getD (numsK a) i (0 : Int)), AV.str (bs (txtN a x2.1) ++ { data := #[(32 : UInt8)] } ++ bs (itoa (List.getD (numsK a) (Int.toNat (↑x2.1 : Int)) (0 : Int)))), Zi (IntKind.wrap IntKind.i64 ((↑x2.1 : Int) + (1 : Int)))]) ([])))))) (.out (AV.str (bs (txtN a x2.1))) [] (AV.str (bs (textR a))) []))))))
    (by kernel_rfl) ?_
  refine k_sc (c1) ?_
  refine k_dc (c2) ?_
  refine k_loop (fun _ hs => hs.le (by repeat' (first | exact trivial | exact Ent.refl _ | exact Ent.of_eq (congrArg AV.str (congrArg bs (txtN_zero a).symm)) | exact Ent.of_eq (congrArg AV.str (txt_app (by omega))) | exact inc_ent (by omega) | exact Ent.of_eq (congrArg (AV.int _) (by first | omega | (dsimp only; omega))) | refine And.intro ?_ ?_)) (trivial)) (fun x2 => ?_)
  try (have q2 := x2.2; dsimp only at q2)
  have e1 := wI (n := (x2.1 : Int) + 1) (by have := x2.2; omega) (by have := x2.2; omega); have k1 := txtN_le ha x2.1 x2.2.1; have k2 := fun h => itoa_l13 (ha x2.1 h)
  refine k_br (fun h3 => ?_) (fun h3 => ?_)
  · have g3 := cnd_dec_t h3
    refine k_req (by first | omega | (simp only [Int.toNat_natCast]; omega) | (simp only [Int.toNat_natCast, ByteArray.size_append, bs_size, z1, List.length_cons, List.length_nil]; omega)) ?_
    refine k_req (by first | omega | (simp only [Int.toNat_natCast]; omega) | (simp only [Int.toNat_natCast, ByteArray.size_append, bs_size, z1, List.length_cons, List.length_nil]; omega)) ?_
    refine k_sc (c3 (Int.toNat (↑x2.1 : Int)) (by omega)) ?_
    refine k_req (by first | omega | (simp only [Int.toNat_natCast]; omega) | (simp only [Int.toNat_natCast, ByteArray.size_append, bs_size, z1, List.length_cons, List.length_nil]; omega)) ?_
    exact k_again (⟨x2.1 + 1, by omega, trivial⟩) (fun _ hs => hs.le (by repeat' (first | exact trivial | exact Ent.refl _ | exact Ent.of_eq (congrArg AV.str (congrArg bs (txtN_zero a).symm)) | exact Ent.of_eq (congrArg AV.str (txt_app (by omega))) | exact inc_ent (by omega) | exact Ent.of_eq (congrArg (AV.int _) (by first | omega | (dsimp only; omega))) | refine And.intro ?_ ?_)) (trivial)) (by first | omega | (dsimp only; omega) | (simp; omega))
  · have g3 := cnd_dec_f h3
    exact k_out (Ent.of_eq (congrArg AV.str (congrArg bs (txtN_end (by omega)))))

theorem rwrit_c (m : GP) (a : Cmd) : Pure Tryd.prog (gl0 m) 14 [.agg a.cells] (.bool (wrB a)) := by
  have c1 := word_c m a
  have c2 := numbers_c m a
  have hn := numsK_le a
  refine pure_sk (own := ow0) Tryd.func14 (by kernel_rfl) mixed (by kernel_rfl)
    (.sc (true) 36 ([AV.agg (Cmd.cells a)]) (AV.str (bs (wordK a))) (.br (ByteArray.toList (bs (wordK a)) == ByteArray.toList { data := #[] } || !a.5 == (a.1 != (5 : Int))) (.out (AV.bool false) [] (AV.bool (wrB a)) []) (.dc (true) 37 ([AV.agg (Cmd.cells a)]) (AV.isl (1 : Nat) (List.length (numsK a)) fun (i x : Nat) => Zi (List.getD (numsK a) i (0 : Int))) (.loop ({ x : Nat // x ≤ List.length (numsK a) ∧ (fun (x : Nat) => ∀ (j : Nat), j < x → (0 : Int) ≤ List.getD (numsK a) j (0 : Int) ∧ List.getD (numsK a) j (0 : Int) ≤ (1099511627776 : Int)) x }) (fun (x : { x : Nat // x ≤ List.length (numsK a) ∧ (fun (x : Nat) => ∀ (j : Nat), j < x → (0 : Int) ≤ List.getD (numsK a) j (0 : Int) ∧ List.getD (numsK a) j (0 : Int) ≤ (1099511627776 : Int)) x }) => mkSt [1, 3, 5, 8, 4] [AV.own (0) (5) (0) (0) (5), AV.isl (1) (List.length (numsK a)) fun (i x : Nat) => Zi (List.getD (numsK a) i (0 : Int)), AV.agg (Cmd.cells a), AV.bool (ByteArray.toList (bs (wordK a)) == ByteArray.toList { data := #[] }), Zi (↑(x.1) : Int)] [some { es := 5, n := 1, mu := true, f := Rep.lst [Cmd.cells a] }]) (fun (x : { x : Nat // x ≤ List.length (numsK a) ∧ (fun (x : Nat) => ∀ (j : Nat), j < x → (0 : Int) ≤ List.getD (numsK a) j (0 : Int) ∧ List.getD (numsK a) j (0 : Int) ≤ (1099511627776 : Int)) x }) => List.length (numsK a) - x.1) (⟨(0 : Nat), ⟨Nat.zero_le (List.length (numsK a)), fun (j : Nat) (hj : j < (0 : Nat)) => absurd hj (Nat.not_lt_zero j)⟩⟩) ([1, 3, 5, 8, 4]) ([0]) ([AV.own (0) (5) (0) (0) (5), AV.isl (1) (List.length (numsK a)) fun (i x : Nat) => Zi (List.getD (numsK a) i (0 : Int)), AV.agg (Cmd.cells a), AV.bool (ByteArray.toList (bs (wordK a)) == ByteArray.toList { data := #[] }), Zi 0]) ([some { es := 5, n := 1, mu := true, f := Rep.lst [Cmd.cells a] }]) (fun x4 => (.br (decide ((↑x4.1 : Int) < (↑(List.length (numsK a)) : Int))) (.req ((0 : Int) ≤ (↑x4.1 : Int) ∧ (↑x4.1 : Int) < (↑(List.length (numsK a)) : Int)) (.req ((decide (List.getD (numsK a) (Int.toNat (↑x4.1 : Int)) (0 : Int) < (0 : Int)) == false) = true → (0 : Int) ≤ (↑x4.1 : Int) ∧ (↑x4.1 : Int) < (↑(List.length (numsK a)) : Int)) (.br (decide (List.getD (numsK a) (Int.toNat (↑x4.1 : Int)) (0 : Int) < (0 : Int)) || decide (List.getD (numsK a) (Int.toNat (↑x4.1 : Int)) (0 : Int) > (1099511627776 : Int))) (.out (AV.bool false) [] (AV.bool (wrB a)) []) (.again (Again (0) (fun (x : { x : Nat // x ≤ List.length (numsK a) ∧ (fun (x : Nat) => ∀ (j : Nat), j < x → (0 : Int) ≤ List.getD (numsK a) j (0 : Int) ∧ List.getD (numsK a) j (0 : Int) ≤ (1099511627776 : Int)) x }) => mkSt [1, 3, 5, 8, 4] [AV.own (0) (5) (0) (0) (5), AV.isl (1) (List.length (numsK a)) fun (i x : Nat) => Zi (List.getD (numsK a) i (0 : Int)), AV.agg (Cmd.cells a), AV.bool (ByteArray.toList (bs (wordK a)) == ByteArray.toList { data := #[] }), Zi (↑(x.1) : Int)] [some { es := 5, n := 1, mu := true, f := Rep.lst [Cmd.cells a] }]) (fun (x : { x : Nat // x ≤ List.length (numsK a) ∧ (fun (x : Nat) => ∀ (j : Nat), j < x → (0 : Int) ≤ List.getD (numsK a) j (0 : Int) ∧ List.getD (numsK a) j (0 : Int) ≤ (1099511627776 : Int)) x }) => List.length (numsK a) - x.1) x4) ([1, 3, 5, 8, 4]) ([0]) ([AV.own (0) (5) (0) (0) (5), AV.isl (1) (List.length (numsK a)) fun (i x : Nat) => Zi (List.getD (numsK a) i (0 : Int)), AV.agg (Cmd.cells a), AV.bool (ByteArray.toList (bs (wordK a)) == ByteArray.toList { data := #[] }), Zi (IntKind.wrap IntKind.i64 ((↑x4.1 : Int) + (1 : Int)))]) ([some { es := 5, n := 1, mu := true, f := Rep.lst [Cmd.cells a] }]))))) (.br (a.1 == (1 : Int)) (.out (AV.bool (a.3 == (0 : Int))) [] (AV.bool (wrB a)) []) (.br (a.1 == (4 : Int)) (.out (AV.bool (a.4 == (0 : Int))) [] (AV.bool (wrB a)) []) (.br (a.1 == (6 : Int)) (.out (AV.bool (a.3 == (0 : Int) && a.4 == (0 : Int))) [] (AV.bool (wrB a)) []) (.br (a.1 == (7 : Int)) (.out (AV.bool (a.2 == (0 : Int) && a.3 == (0 : Int) && a.4 == (0 : Int))) [] (AV.bool (wrB a)) []) (.br (a.1 == (8 : Int)) (.out (AV.bool (a.2 == (0 : Int) && a.3 == (0 : Int))) [] (AV.bool (wrB a)) []) (.out (AV.bool true) [] (AV.bool (wrB a)) []))))))))))))
    (by kernel_rfl) ?_
  refine k_sc (c1) ?_
  refine k_br (fun h1 => ?_) (fun h1 => ?_)
  · have g1 := (cnd_or_t cnd_id_t (cnd_not_t cnd_id_f)) h1
    exact k_out (Ent.of_eq (congrArg AV.bool (wr_no1 (by simpa using h1)).symm))
  · have g1 := (cnd_or_f cnd_id_f (cnd_not_f cnd_id_t)) h1
    refine k_dc (c2) ?_
    refine k_loop (fun _ hs => hs.le (by repeat' (first | exact trivial | (first | exact Ent.refl _ | exact inc_ent (by omega) | exact Ent.nil rfl | exact Ent.of_eq (congrArg (AV.osl _ _ _) (by first | omega | (dsimp only; omega))) | exact Ent.of_eq (congrArg (AV.int _) (by first | omega | (dsimp only; omega)))) | refine And.intro ?_ ?_)) (by repeat' (first | exact trivial | (first | exact ObEnt.refl _ | exact ObEnt.junk | exact ObEnt.zero | exact ObEnt.push rfl rfl | exact ObEnt.pushRow rfl | exact ObEnt.len (by omega) | exact ObEnt.row (by repeat' (first | exact trivial | (first | exact Ent.refl _ | exact inc_ent (by omega) | exact Ent.nil rfl | exact Ent.of_eq (congrArg (AV.osl _ _ _) (by first | omega | (dsimp only; omega))) | exact Ent.of_eq (congrArg (AV.int _) (by first | omega | (dsimp only; omega)))) | refine And.intro ?_ ?_))) | refine And.intro ?_ ?_))) (fun x4 => ?_)
    try (have q4 := x4.2; dsimp only at q4)
    have e1 := wI (n := (x4.1 : Int) + 1) (by have := x4.2; omega) (by have := x4.2; omega); have k1 : ¬ wordK a = [] ∧ a.honest = (a.kind != 5) := by simpa using h1
    refine k_br (fun h5 => ?_) (fun h5 => ?_)
    · have g5 := cnd_dec_t h5
      refine k_req (by first | omega | (simp only [Int.toNat_natCast]; omega)) ?_
      refine k_req (fun hr => by have hr := (cnd_eqf_t cnd_dec_f) hr; first | omega | (simp only [Int.toNat_natCast] at *; omega)) ?_
      refine k_br (fun h8 => ?_) (fun h8 => ?_)
      · have g8 := (cnd_or_t cnd_dec_t cnd_dec_t) h8
        try simp only [Int.toNat_natCast] at g8
        exact k_out (Ent.of_eq (congrArg AV.bool (wr_no2 (x := x4.1) (by omega) g8).symm))
      · have g8 := (cnd_or_f cnd_dec_f cnd_dec_f) h8
        try simp only [Int.toNat_natCast] at g8
        exact k_again (⟨x4.1 + 1, by omega, fun j hj => by rcases Nat.lt_succ_iff_lt_or_eq.1 hj with hj | rfl; (· exact x4.2.2 j hj); (· exact ⟨by omega, by omega⟩)⟩) (fun _ hs => hs.le (by repeat' (first | exact trivial | (first | exact Ent.refl _ | exact inc_ent (by omega) | exact Ent.nil rfl | exact Ent.of_eq (congrArg (AV.osl _ _ _) (by first | omega | (dsimp only; omega))) | exact Ent.of_eq (congrArg (AV.int _) (by first | omega | (dsimp only; omega)))) | refine And.intro ?_ ?_)) (by repeat' (first | exact trivial | (first | exact ObEnt.refl _ | exact ObEnt.junk | exact ObEnt.zero | exact ObEnt.push rfl rfl | exact ObEnt.pushRow rfl | exact ObEnt.len (by omega) | exact ObEnt.row (by repeat' (first | exact trivial | (first | exact Ent.refl _ | exact inc_ent (by omega) | exact Ent.nil rfl | exact Ent.of_eq (congrArg (AV.osl _ _ _) (by first | omega | (dsimp only; omega))) | exact Ent.of_eq (congrArg (AV.int _) (by first | omega | (dsimp only; omega)))) | refine And.intro ?_ ?_))) | refine And.intro ?_ ?_))) (by first | omega | (dsimp only; omega) | (simp; omega))
    · have g5 := cnd_dec_f h5
      refine k_br (fun h11 => ?_) (fun h11 => ?_)
      · have g11 := cnd_beq_t h11
        exact k_out ((by first | (exfalso; omega) | exact Ent.of_eq (congrArg AV.bool (by rw [wr_y (x := x4.1) k1 (by omega) fun j hj _ => x4.2.2 j hj]; simp [restB, Bool.and_assoc, *]))))
      · have g11 := cnd_beq_f h11
        refine k_br (fun h13 => ?_) (fun h13 => ?_)
        · have g13 := cnd_beq_t h13
          exact k_out ((by first | (exfalso; omega) | exact Ent.of_eq (congrArg AV.bool (by rw [wr_y (x := x4.1) k1 (by omega) fun j hj _ => x4.2.2 j hj]; simp [restB, Bool.and_assoc, *]))))
        · have g13 := cnd_beq_f h13
          refine k_br (fun h15 => ?_) (fun h15 => ?_)
          · have g15 := cnd_beq_t h15
            exact k_out ((by first | (exfalso; omega) | exact Ent.of_eq (congrArg AV.bool (by rw [wr_y (x := x4.1) k1 (by omega) fun j hj _ => x4.2.2 j hj]; simp [restB, Bool.and_assoc, *]))))
          · have g15 := cnd_beq_f h15
            refine k_br (fun h17 => ?_) (fun h17 => ?_)
            · have g17 := cnd_beq_t h17
              exact k_out ((by first | (exfalso; omega) | exact Ent.of_eq (congrArg AV.bool (by rw [wr_y (x := x4.1) k1 (by omega) fun j hj _ => x4.2.2 j hj]; simp [restB, Bool.and_assoc, *]))))
            · have g17 := cnd_beq_f h17
              refine k_br (fun h19 => ?_) (fun h19 => ?_)
              · have g19 := cnd_beq_t h19
                exact k_out ((by first | (exfalso; omega) | exact Ent.of_eq (congrArg AV.bool (by rw [wr_y (x := x4.1) k1 (by omega) fun j hj _ => x4.2.2 j hj]; simp [restB, Bool.and_assoc, *]))))
              · have g19 := cnd_beq_f h19
                exact k_out ((by first | (exfalso; omega) | exact Ent.of_eq (congrArg AV.bool (by rw [wr_y (x := x4.1) k1 (by omega) fun j hj _ => x4.2.2 j hj]; simp [restB, Bool.and_assoc, *]))))

theorem rparse_c (m : GP) (s : Str) (hs : s.length < 4294967279) : Pure Tryd.prog (gl0 m) 11 [.str (bs s)] (prA s) := by
  have c1 := words_c m s (by omega)
  have c2 := ractn_c m s hs
  have c3 := rtext_c m _ (read_nums (wordsC s))
  refine pure_sk (own := ow0) Tryd.func11 (by kernel_rfl) mixed (by kernel_rfl)
    (.br (decide ((↑(ByteArray.size (bs s)) : Int) > (100 : Int))) (.out (AV.tup [AV.agg [Zi 0, Zi 0, Zi 0, Zi 0, AV.bool false], Zi 5]) [] (prA s) []) (.dc (true) 33 ([AV.str (bs s)]) (AV.isl (1 : Nat) (List.length (wordsR s)) fun (i x : Nat) => AV.str (bs (List.getD (wordsR s) i []))) (.sc (true) 32 ([AV.isl (1) (List.length (wordsR s)) fun (i x : Nat) => AV.str (bs (List.getD (wordsR s) i []))]) (AV.tup [AV.agg (Cmd.cells (Option.getD (readF (wordsC s)) Cmd.zero)), AV.bool (Option.isSome (readF (wordsC s)))]) (.sc ((!Option.isSome (readF (wordsC s))) == false) 15 ([AV.agg (Cmd.cells (Option.getD (readF (wordsC s)) Cmd.zero))]) (AV.str (bs (textR (Option.getD (readF (wordsC s)) Cmd.zero)))) (.br (!Option.isSome (readF (wordsC s)) || !ByteArray.toList (bs (textR (Option.getD (readF (wordsC s)) Cmd.zero))) == ByteArray.toList (bs s)) (.out (AV.tup [AV.agg [Zi 0, Zi 0, Zi 0, Zi 0, AV.bool false], Zi 3]) [] (prA s) []) (.out (AV.tup [AV.agg (Cmd.cells (Option.getD (readF (wordsC s)) Cmd.zero)), Zi 0]) [] (prA s) []))))))
    (by kernel_rfl) ?_
  refine k_br (fun h0 => ?_) (fun h0 => ?_)
  · have g0 := cnd_dec_t h0
    exact k_out (Ent.of_eq (pr_1 g0))
  · have g0 := cnd_dec_f h0
    refine k_dc (c1) ?_
    refine k_sc (c2) ?_
    refine k_scg (fun h4 => c3) ?_
    refine k_br (fun h5 => ?_) (fun h5 => ?_)
    · have g5 := (cnd_or_t (cnd_not_t cnd_id_f) (cnd_not_t cnd_id_f)) h5
      exact k_out (Ent.of_eq (pr_2 g0 (by rw [par_n (by simpa using h5)]; rfl)))
    · have g5 := (cnd_or_f (cnd_not_f cnd_id_t) (cnd_not_f cnd_id_t)) h5
      exact k_out (Ent.of_eq (by have e := par_y (eqT g5.2) g5.1; have := pr_3 g0 (by rw [e]; rfl); rw [e] at this; exact this))

end Go.Proofs.YtbmdmoknnlhdoaaDoor

namespace Go.Proofs.YtbmdmoknnlhdoaaDoor
open Go Go.Am Go.Sp Go.Lib Go.RowKit Go.Shelf
set_option maxRecDepth 100000

def helpN (k : Nat) : Str := (List.range k).flatMap fun i => FW i ++ [10]

def frmC (n : Nat) : Value := match n % 3 with
  | 0 => .int .i64 (FM (n / 3)).kind
  | 1 => .string (bs (FW (n / 3)))
  | _ => .int .i64 (FM (n / 3)).whom
theorem forms_w (w : World) : Calls Tryd.prog 29 #[] w fun e w' => e = .returned (.slice (some ⟨w.heap.size, 0, none⟩) 9 9) ∧ w' = w.alloc (.cells ((List.range 27).map frmC).toArray 59) := by
  go_enter Tryd.func29, Tryd.ntmps29
  go_wp2
  go_ret
  refine ⟨rfl, ?_⟩
  rfl

theorem frm_0 (k : Nat) : frmC (k * 3) = .int .i64 (FM k).kind := by
  unfold frmC; rw [show k * 3 % 3 = 0 by omega, show k * 3 / 3 = k by omega]; rfl
theorem frm_1 (k : Nat) : frmC (k * 3 + 1) = .string (bs (FW k)) := by
  unfold frmC; rw [show (k * 3 + 1) % 3 = 1 by omega, show (k * 3 + 1) / 3 = k by omega]; rfl
theorem frm_2 (k : Nat) : frmC (k * 3 + 2) = .int .i64 (FM k).whom := by
  unfold frmC; rw [show (k * 3 + 2) % 3 = 2 by omega, show (k * 3 + 2) / 3 = k by omega]; rfl
theorem frm_at {w : World} {b n : Nat} (h : w.heap[b]? = some (.cells ((List.range 27).map frmC).toArray 59)) (hn : n < 27) : w.cell? ⟨b, n, none⟩ = some (frmC n) := by
  rw [cell_of_heap h]
  simp [hn]
theorem alloc2_blk (w : World) (o : Obj) (cs : Array Value) (t : TypeId) : ((w.alloc o).alloc (.cells cs t)).heap[w.heap.size + 1]? = some (.cells cs t (0, 0)) := by
  have := alloc_blk (w := w.alloc o) (cs := cs) (t := t)
  have e : (w.alloc o).heap.size = w.heap.size + 1 := by simp
  rwa [e] at this
theorem help_le {k : Nat} (h : k ≤ 9) : (helpN k).length ≤ 1000 := by
  have : k = 0 ∨ k = 1 ∨ k = 2 ∨ k = 3 ∨ k = 4 ∨ k = 5 ∨ k = 6 ∨ k = 7 ∨ k = 8 ∨ k = 9 := by omega
  rcases this with rfl | rfl | rfl | rfl | rfl | rfl | rfl | rfl | rfl | rfl <;> decide
theorem FW_le {k : Nat} (h : k < 9) : (FW k).length ≤ 100 := by
  have : k = 0 ∨ k = 1 ∨ k = 2 ∨ k = 3 ∨ k = 4 ∨ k = 5 ∨ k = 6 ∨ k = 7 ∨ k = 8 := by omega
  rcases this with rfl | rfl | rfl | rfl | rfl | rfl | rfl | rfl | rfl <;> decide
theorem help_snoc (k : Nat) : helpN (k + 1) = helpN k ++ (FW k ++ [10]) := by
  unfold helpN; rw [List.range_succ, List.flatMap_append]; simp
theorem ws_k (B b : Nat) (bs : List Value) (s : ByteArray) (w : World) (h : IsBuilderF 65 5 B b bs w) (hlen : bs.length + s.size ≤ 140737488355328) (hBw : B ≤ w.heap.size) :
    Calls Tryd.prog 34 #[.pointer (some ⟨b, 0, none⟩), .string s] w fun e w' => e = .returned (.tuple #[.int .i64 s.size, .nilIface]) ∧ (BuilderAtF 65 5 B b (.pointer (some ⟨b, 0, none⟩)) (bs ++ strCells s) w' ∧ Below B w w' ∧ OthersKept 5 (some b) w w') :=
  Any.Builder_WriteString_k { Tryd.lays156 with } Tryd.Builder_Extra_156 B b bs s w h hlen hBw
theorem st_k (B b : Nat) (l : List UInt8) (w : World) (h : IsBuilderF 65 5 B b (Lib.byteCells l) w) (hBw : B ≤ w.heap.size) :
    Calls Tryd.prog 35 #[.pointer (some ⟨b, 0, none⟩)] w fun e w' => e = .returned (.string ⟨l.toArray⟩) ∧ (IsBuilderF 65 5 B b (Lib.byteCells l) w' ∧ Below B w w' ∧ OthersKept 5 (some b) w w') :=
  Any.Builder_String_any_k { Tryd.lays156 with } Tryd.Builder_Extra_156 B b l w h hBw

theorem round_k (w wr : World) (o : Obj) (cs : Array Value) (F A A' : Str) (hA : A' = A ++ (F ++ [10])) (hlA : A.length ≤ 1000) (hlF : F.length ≤ 100)
    (HB : IsBuilderF 65 5 w.heap.size w.heap.size (Lib.byteCells A) wr) (HW : Below w.heap.size w wr) (HC : wr.heap[w.heap.size + 1]? = some (.cells cs 59)) :
    Calls Tryd.prog 34 #[.pointer (some ⟨w.heap.size, 0, none⟩), .string (bs F ++ ⟨#[10]⟩)] (wr.alloc o) fun e w3 => e = .returned (.tuple #[.int .i64 (bs F ++ ⟨#[10]⟩).size, .nilIface]) ∧ IsBuilderF 65 5 w.heap.size w.heap.size (Lib.byteCells A') w3 ∧ Below w.heap.size w w3 ∧ w3.heap[w.heap.size + 1]? = some (.cells cs 59) := by
  have hbk : w.heap.size ≤ wr.heap.size := HW.size
  have hlt : w.heap.size + 1 < wr.heap.size := by
    rcases Nat.lt_or_ge (w.heap.size + 1) wr.heap.size with h' | h'
    · exact h'
    · rw [Array.getElem?_eq_none h'] at HC; cases HC
  have hsz : (wr.alloc o).heap.size = wr.heap.size + 1 := by simp
  have e0 : bs F ++ ⟨#[10]⟩ = bs (F ++ [10]) := bs_app F [10]
  have e3 : Lib.byteCells A ++ strCells (bs (F ++ [10])) = Lib.byteCells A' := by
    rw [hA, Lib.byteCells_append, Lib.strCells_eq, bs_data]
  rw [e0]
  refine (ws_k w.heap.size w.heap.size (Lib.byteCells A) (bs (F ++ [10])) (wr.alloc o) (HB.alloc o) (by rw [Lib.byteCells_length, bs_size, List.length_append, List.length_singleton]; omega) (by rw [hsz]; omega)).mono ?_
  rintro e w3 ⟨he, h3, hb3, hk3⟩
  rw [e3] at h3
  refine ⟨he, .inr h3, (HW.alloc hbk o).trans hb3, hk3 (w.heap.size + 1) _ (by rw [Below.heap_alloc _ _ _ hlt]; exact HC) (fun h => absurd (Option.some.inj h) (Nat.succ_ne_self _)) (fun c fz e => by simp only [Obj.cells.injEq] at e; exact absurd e.2.1 (by decide))⟩


set_option maxHeartbeats 400000 in
theorem help_w (w : World) : Calls Tryd.prog 12 #[] w fun e w' => e = .returned (.string (bs (helpN 9))) ∧ Below w.heap.size w w' := by
  go_enter Tryd.func12, Tryd.ntmps12
  go_wp2_with fail
  refine (forms_w _).mono ?_
  rintro e w1 ⟨rfl, rfl⟩
  have H0 : Hid (IsBuilderF 65 5 w.heap.size w.heap.size (Lib.byteCells (helpN 0)) ((w.alloc (.cells #[.pointer none, .slice none 0 0] 65)).alloc (.cells ((List.range 27).map frmC).toArray 59))) := Any.hidJ ((IsBuilderF.of (fresh_isBuilder 65 5 w)).alloc _)
  have HW0 : Hid (Below w.heap.size w ((w.alloc (.cells #[.pointer none, .slice none 0 0] 65)).alloc (.cells ((List.range 27).map frmC).toArray 59))) := Any.hidJ (((Below.refl _ _).alloc (Nat.le_refl _) _).alloc (by simp) _)
  have HC0 : Hid (((w.alloc (.cells #[.pointer none, .slice none 0 0] 65)).alloc (.cells ((List.range 27).map frmC).toArray 59)).heap[w.heap.size + 1]? = some (.cells ((List.range 27).map frmC).toArray 59)) := Any.hidJ (alloc2_blk _ _ _ _)
  generalize (w.alloc (.cells #[.pointer none, .slice none 0 0] 65)).alloc (.cells ((List.range 27).map frmC).toArray 59) = w0 at H0 HW0 HC0 ⊢
  go_wp2_with fail
  go_loopw [6] (fun i wr => ∃ k : Nat, k ≤ 9 ∧ i = .int .i64 k ∧ Hid (IsBuilderF 65 5 w.heap.size w.heap.size (Lib.byteCells (helpN k)) wr) ∧ Hid (Below w.heap.size w wr) ∧ Hid (wr.heap[w.heap.size + 1]? = some (.cells ((List.range 27).map frmC).toArray 59))) (fun i _ => 9 - (RowKit.intOf i).toNat)
  case atStart => exact ⟨0, Nat.zero_le _, rfl, H0, HW0, HC0⟩
  case round =>
    obtain ⟨k, hk, rfl, HB, HW, HC⟩ := hrel
    by_cases hk9 : k < 9
    · have hc0 := frm_at HC.out (show k * 3 < 27 by omega)
      have hc1 := frm_at HC.out (show k * 3 + 1 < 27 by omega)
      have hc2 := frm_at HC.out (show k * 3 + 2 < 27 by omega)
      rw [frm_0] at hc0
      rw [frm_1] at hc1
      rw [frm_2] at hc2
      have hl := FW_le hk9
      have zl := bs_size (FW k)
      go_wp2_with fail
      refine (round_k w wr _ _ (FW k) (helpN k) (helpN (k + 1)) (help_snoc k) (help_le hk) hl HB.out HW.out HC.out).mono ?_
      rintro e w3 ⟨rfl, h3, hb3, hc3⟩
      have H3 := Any.hidJ h3
      have HW3 := Any.hidJ hb3
      have HC3 := Any.hidJ hc3
      clear h3 hb3 hc3
      go_wp2
      exact ⟨⟨k + 1, by omega, by go_num, H3, HW3, HC3⟩, by simp [RowKit.intOf]; omega⟩
    · obtain rfl : k = 9 := by omega
      go_wp2_with fail
      refine (st_k w.heap.size w.heap.size (helpN 9) wr HB.out HW.out.size).mono ?_
      rintro e w5 ⟨rfl, _, hb5, _⟩
      have Hb5 := Any.hidJ (HW.out.trans hb5)
      clear hb5
      go_wp2
      go_ret
      exact ⟨rfl, Hb5.out⟩

theorem help_c (m : GP) : Pure Tryd.prog (gl0 m) 12 [] (.str (bs (helpN 9))) := by
  refine pure_of ⟨_, _, Tryd.func12, rfl, by kernel_rfl⟩ fun β w vs hf hg ha => ?_
  obtain rfl : vs = #[] := by
    have := ha.len
    match vs, this with
    | ⟨[]⟩, _ => rfl
  refine (help_w w).mono fun e w' hh => ?_
  obtain ⟨he, hb⟩ := hh
  exact ⟨_, he, hb, .str⟩

theorem rhelp_c (m : GP) : Pure Tryd.prog (gl0 m) 13 [] (.str (bs (helpN 9))) := by
  refine pure_sk (own := ow0) Tryd.func13 (by kernel_rfl) mixed (by kernel_rfl)
    (.out (AV.str { data := #[(119 : UInt8), (105 : UInt8), (116 : UInt8), (104 : UInt8), (100 : UInt8), (114 : UInt8), (97 : UInt8), (119 : UInt8), (32 : UInt8), (87 : UInt8), (72 : UInt8), (79 : UInt8), (32 : UInt8), (65 : UInt8), (77 : UInt8), (79 : UInt8), (85 : UInt8), (78 : UInt8), (84 : UInt8), (10 : UInt8), (112 : UInt8), (97 : UInt8), (121 : UInt8), (32 : UInt8), (87 : UInt8), (72 : UInt8), (79 : UInt8), (32 : UInt8), (87 : UInt8), (72 : UInt8), (79 : UInt8), (77 : UInt8), (32 : UInt8), (65 : UInt8), (77 : UInt8), (79 : UInt8), (85 : UInt8), (78 : UInt8), (84 : UInt8), (10 : UInt8), (116 : UInt8), (114 : UInt8), (97 : UInt8), (110 : UInt8), (115 : UInt8), (102 : UInt8), (101 : UInt8), (114 : UInt8), (32 : UInt8), (87 : UInt8), (72 : UInt8), (79 : UInt8), (32 : UInt8), (87 : UInt8), (72 : UInt8), (79 : UInt8), (77 : UInt8), (32 : UInt8), (65 : UInt8), (77 : UInt8), (79 : UInt8), (85 : UInt8), (78 : UInt8), (84 : UInt8), (10 : UInt8), (100 : UInt8), (101 : UInt8), (112 : UInt8), (111 : UInt8), (115 : UInt8), (105 : UInt8), (116 : UInt8), (32 : UInt8), (109 : UInt8), (101 : UInt8), (114 : UInt8), (99 : UInt8), (104 : UInt8), (97 : UInt8), (110 : UInt8), (116 : UInt8), (32 : UInt8), (87 : UInt8), (72 : UInt8), (79 : UInt8), (10 : UInt8), (100 : UInt8), (101 : UInt8), (112 : UInt8), (111 : UInt8), (115 : UInt8), (105 : UInt8), (116 : UInt8), (32 : UInt8), (104 : UInt8), (111 : UInt8), (108 : UInt8), (100 : UInt8), (101 : UInt8), (114 : UInt8), (32 : UInt8), (87 : UInt8), (72 : UInt8), (79 : UInt8), (10 : UInt8), (100 : UInt8), (111 : UInt8), (117 : UInt8), (98 : UInt8), (108 : UInt8), (101 : UInt8), (32 : UInt8), (87 : UInt8), (72 : UInt8), (79 : UInt8), (32 : UInt8), (87 : UInt8), (72 : UInt8), (79 : UInt8), (77 : UInt8), (32 : UInt8), (65 : UInt8), (77 : UInt8), (79 : UInt8), (85 : UInt8), (78 : UInt8), (84 : UInt8), (10 : UInt8), (116 : UInt8), (114 : UInt8), (97 : UInt8), (99 : UInt8), (101 : UInt8), (32 : UInt8), (87 : UInt8), (72 : UInt8), (79 : UInt8), (10 : UInt8), (99 : UInt8), (108 : UInt8), (101 : UInt8), (97 : UInt8), (114 : UInt8), (10 : UInt8), (116 : UInt8), (105 : UInt8), (99 : UInt8), (107 : UInt8), (32 : UInt8), (65 : UInt8), (77 : UInt8), (79 : UInt8), (85 : UInt8), (78 : UInt8), (84 : UInt8), (10 : UInt8)] }) [] (AV.str (bs (helpN (9 : Nat)))) [])
    (by kernel_rfl) ?_
  exact k_out (Ent.of_eq (congrArg AV.str (by decide)))

end Go.Proofs.YtbmdmoknnlhdoaaDoor

namespace Go.Proofs.YtbmdmoknnlhdoaaDoor
open Go Go.Am Go.Sp Go.Lib Go.RowKit
set_option maxRecDepth 100000

theorem forms_y (m : GP) (s T : Str) (a C : Cmd) (E : Int) (hw : wrB a = true)
    (c1 : Pure Tryd.prog (gl0 m) 10 [.agg a.cells] (.tup [.str (bs T), .int .i64 0]))
    (c2 : Pure Tryd.prog (gl0 m) 15 [.agg a.cells] (.str (bs T)))
    (c3 : ¬ ((bs s).size : Int) > 200 → Pure Tryd.prog (gl0 m) 9 [.str (bs s)] (.tup [.agg C.cells, .int .i64 E]))
    (c4 : ¬ ((bs s).size : Int) > 200 → Pure Tryd.prog (gl0 m) 11 [.str (bs s)] (.tup [.agg C.cells, .int .i64 E])) :
    Pure Tryd.prog (gl0 m) 3 [.str (bs s), .agg a.cells] (.bool true) := by
  have c0 := awake_c m
  have c5 := help_c m
  have c6 := rhelp_c m
  have c7 := rwrit_c m a
  rw [hw] at c7
  generalize helpN 9 = H at c5 c6
  refine pure_sk (own := ow0) Tryd.func3 (by kernel_rfl) mixed (by kernel_rfl)
    (.sc (true) 8 ([]) (AV.bool true) (.br (decide ((↑(ByteArray.size (bs s)) : Int) > (200 : Int))) (.sc (true) 8 ([]) (AV.bool true) (.out (AV.bool true) [] (AV.bool true) [])) (.sc (true) 9 ([AV.str (bs s)]) (AV.tup [AV.agg (Cmd.cells C), Zi E]) (.sc (true) 10 ([AV.agg (Cmd.cells a)]) (AV.tup [AV.str (bs T), Zi 0]) (.sc (true) 11 ([AV.str (bs s)]) (AV.tup [AV.agg (Cmd.cells C), Zi E]) (.sc ((!(C.1 == C.1 && (C.2 == C.2 && (C.3 == C.3 && (C.4 == C.4 && (C.5 == C.5 && true))))) || E != E) == false) 12 ([]) (AV.str (bs H)) (.sc ((!(C.1 == C.1 && (C.2 == C.2 && (C.3 == C.3 && (C.4 == C.4 && (C.5 == C.5 && true))))) || E != E) == false) 13 ([]) (AV.str (bs H)) (.br (!(C.1 == C.1 && (C.2 == C.2 && (C.3 == C.3 && (C.4 == C.4 && (C.5 == C.5 && true))))) || E != E || !ByteArray.toList (bs H) == ByteArray.toList (bs H)) (.out (AV.bool false) [] (AV.bool true) []) (.sc (true) 14 ([AV.agg (Cmd.cells a)]) (AV.bool true) (.ff (.sc (true) 15 ([AV.agg (Cmd.cells a)]) (AV.str (bs T)) (.out (AV.bool (ByteArray.toList (bs T) == ByteArray.toList (bs T) || false)) [] (AV.bool true) []))))))))))))
    (by kernel_rfl) ?_
  refine k_sc (c0) ?_
  refine k_br (fun h1 => ?_) (fun h1 => ?_)
  · have g1 := cnd_dec_t h1
    refine k_sc (c0) ?_
    exact k_out (Ent.of_eq (by first | rfl | simp_all))
  · have g1 := cnd_dec_f h1
    refine k_sc (c3 (by first | assumption | omega)) ?_
    refine k_sc (c1) ?_
    refine k_sc (c4 (by first | assumption | omega)) ?_
    refine k_scg (fun h7 => c5) ?_
    refine k_scg (fun h8 => c6) ?_
    refine k_br (fun h9 => ?_) (fun h9 => ?_)
    · have g9 := (cnd_or_t (cnd_or_t (cnd_not_t (cnd_and_f cnd_beq_f (cnd_and_f cnd_beq_f (cnd_and_f cnd_beq_f (cnd_and_f cnd_beq_f (cnd_and_f cnd_id_f cnd_id_f)))))) cnd_bne_t) (cnd_not_t cnd_id_f)) h9
      exact k_out (Ent.of_eq (by first | rfl | simp_all))
    · have g9 := (cnd_or_f (cnd_or_f (cnd_not_f (cnd_and_t cnd_beq_t (cnd_and_t cnd_beq_t (cnd_and_t cnd_beq_t (cnd_and_t cnd_beq_t (cnd_and_t cnd_id_t cnd_id_t)))))) cnd_bne_f) (cnd_not_f cnd_id_t)) h9
      refine k_sc (c7) ?_
      refine k_ff ?_
      refine k_sc (c2) ?_
      exact k_out (Ent.of_eq (by first | rfl | simp_all))

theorem forms_n (m : GP) (s : Str) (a C : Cmd) (E : Int) (hw : wrB a = false)
    (c1 : Pure Tryd.prog (gl0 m) 10 [.agg a.cells] (.tup [.str (bs []), .int .i64 1]))
    (c3 : ¬ ((bs s).size : Int) > 200 → Pure Tryd.prog (gl0 m) 9 [.str (bs s)] (.tup [.agg C.cells, .int .i64 E]))
    (c4 : ¬ ((bs s).size : Int) > 200 → Pure Tryd.prog (gl0 m) 11 [.str (bs s)] (.tup [.agg C.cells, .int .i64 E])) :
    Pure Tryd.prog (gl0 m) 3 [.str (bs s), .agg a.cells] (.bool true) := by
  have c0 := awake_c m
  have c5 := help_c m
  have c6 := rhelp_c m
  have c7 := rwrit_c m a
  rw [hw] at c7
  generalize helpN 9 = H at c5 c6
  refine pure_sk (own := ow0) Tryd.func3 (by kernel_rfl) mixed (by kernel_rfl)
    (.sc (true) 8 ([]) (AV.bool true) (.br (decide ((↑(ByteArray.size (bs s)) : Int) > (200 : Int))) (.sc (true) 8 ([]) (AV.bool true) (.out (AV.bool true) [] (AV.bool true) [])) (.sc (true) 9 ([AV.str (bs s)]) (AV.tup [AV.agg (Cmd.cells C), Zi E]) (.sc (true) 10 ([AV.agg (Cmd.cells a)]) (AV.tup [AV.str (bs []), Zi 1]) (.sc (true) 11 ([AV.str (bs s)]) (AV.tup [AV.agg (Cmd.cells C), Zi E]) (.sc ((!(C.1 == C.1 && (C.2 == C.2 && (C.3 == C.3 && (C.4 == C.4 && (C.5 == C.5 && true))))) || E != E) == false) 12 ([]) (AV.str (bs H)) (.sc ((!(C.1 == C.1 && (C.2 == C.2 && (C.3 == C.3 && (C.4 == C.4 && (C.5 == C.5 && true))))) || E != E) == false) 13 ([]) (AV.str (bs H)) (.br (!(C.1 == C.1 && (C.2 == C.2 && (C.3 == C.3 && (C.4 == C.4 && (C.5 == C.5 && true))))) || E != E || !ByteArray.toList (bs H) == ByteArray.toList (bs H)) (.out (AV.bool false) [] (AV.bool true) []) (.sc (true) 14 ([AV.agg (Cmd.cells a)]) (AV.bool false) (.tt (.out (AV.bool true) [] (AV.bool true) [])))))))))))
    (by kernel_rfl) ?_
  refine k_sc (c0) ?_
  refine k_br (fun h1 => ?_) (fun h1 => ?_)
  · have g1 := cnd_dec_t h1
    refine k_sc (c0) ?_
    exact k_out (Ent.of_eq (by first | rfl | simp_all))
  · have g1 := cnd_dec_f h1
    refine k_sc (c3 (by first | assumption | omega)) ?_
    refine k_sc (c1) ?_
    refine k_sc (c4 (by first | assumption | omega)) ?_
    refine k_scg (fun h7 => c5) ?_
    refine k_scg (fun h8 => c6) ?_
    refine k_br (fun h9 => ?_) (fun h9 => ?_)
    · have g9 := (cnd_or_t (cnd_or_t (cnd_not_t (cnd_and_f cnd_beq_f (cnd_and_f cnd_beq_f (cnd_and_f cnd_beq_f (cnd_and_f cnd_beq_f (cnd_and_f cnd_id_f cnd_id_f)))))) cnd_bne_t) (cnd_not_t cnd_id_f)) h9
      exact k_out (Ent.of_eq (by first | rfl | simp_all))
    · have g9 := (cnd_or_f (cnd_or_f (cnd_not_f (cnd_and_t cnd_beq_t (cnd_and_t cnd_beq_t (cnd_and_t cnd_beq_t (cnd_and_t cnd_beq_t (cnd_and_t cnd_id_t cnd_id_t)))))) cnd_bne_f) (cnd_not_f cnd_id_t)) h9
      refine k_sc (c7) ?_
      refine k_tt ?_
      exact k_out (Ent.of_eq (by first | rfl | simp_all))

theorem consoleForms_c (m : GP) (s : Str) (a : Cmd) (ha : CmdR a) : Pure Tryd.prog (gl0 m) 3 [.str (bs s), .agg a.cells] (.bool true) := by
  have hq : ¬ ((bs s).size : Int) > 200 → s.length < 4294967279 := fun h => by rw [bs_size] at h; omega
  have c3 : ¬ ((bs s).size : Int) > 200 → Pure Tryd.prog (gl0 m) 9 [.str (bs s)] (.tup [.agg (parC s).cells, .int .i64 (parE s)]) := fun h => parse_c m s (by have := hq h; omega)
  have c4 : ¬ ((bs s).size : Int) > 200 → Pure Tryd.prog (gl0 m) 11 [.str (bs s)] (.tup [.agg (parC s).cells, .int .i64 (parE s)]) := fun h => rparse_c m s (hq h)
  have t := text_c m a ha
  by_cases hw : wrB a = true
  · obtain ⟨ws, hl⟩ := wr_lin hw
    rw [lin_text hl, ← (lin_wr hl).2] at t
    exact forms_y m s (textR a) a (parC s) (parE s) hw t (rtext_c m a (lin_nums hl)) c3 c4
  · rw [textF_eq, if_neg hw] at t
    exact forms_n m s a (parC s) (parE s) (by simpa using hw) t c3 c4

end Go.Proofs.YtbmdmoknnlhdoaaDoor

namespace Go.Am
open Go Go.RowKit
section
variable {H : Type} {enc : TypeId × Value → H}
theorem returns_shaped {a : Assume} {C : Checked} {os : Os} {f : FuncId} {fn : Func} {s : ChangeSpec} {conds : List PathCond} {apart fresh handsOn again : Bool} {X : World → Array Value → Prop}
    (hX : ∀ (w w' : World) (args : Array Value), w.heap = w'.heap → X w args → X w' args)
    (own : ownKnob C.prog.godebug = none) (started : os.Started) (noInit : C.prog.inits.idxOf? f = none) (hfn : C.prog.funcs[f]? = some fn)
    (witness : ∃ (w : World) (tape : Tape) (i : Input), w.os = os ∧ (w.forCall tape i).Shaped C.prog ∧ i.vars = [] ∧ Input.okWide C.prog (w.forCall tape i) .any w.heap.size f i ∧
      ((s.pre enc C.prog fn conds apart (w.forCall tape i).memory i.args ∧ X (w.forCall tape i).memory i.args) ∧ sizedMet enc C.prog fn (OpenSpec.ofChange s) apart (w.forCall tape i).memory i.args) ∧ a.holds C.prog (lone (Frame.enter C.prog f i.args .normal) [] (w.forCall tape i)))
    (contract : ∀ (W : World) (base : Nat) (args : Array Value) (ds gs : List (DataW H)) (before : List MemPlace),
      (∀ (j : Nat) t v, fn.params[j]? = some t → args[j]? = some v → Value.okWide C.prog W .any base t v) →
      DataW.Whole enc C.prog fn.params.toList s.vars apart W args.toList ds gs before →
      conds.all (PathCond.test C.prog ⟨fn.params.toList, ds, s.plain.varTypes C.prog, gs⟩) = true →
      (DataW.weightsEach C.prog (fn.params.toList ++ s.plain.varTypes C.prog) (ds ++ gs)).all (· ≤ reachBytes) = true → X W args → W.ShapedOpen C.prog →
      a.holds C.prog (lone (Frame.enter C.prog f args .normal) [] W) →
      Calls C.prog f args W fun e W' => ∃ v, e = .returned v ∧ s.post enc C.prog fn apart fresh handsOn again W args v W') :
    ReturnsInHanded a C os f .any (fun w args => (s.pre enc C.prog fn conds apart w args ∧ X w args) ∧ sizedMet enc C.prog fn (OpenSpec.ofChange s) apart w args) (s.post enc C.prog fn apart fresh handsOn again) := by
  refine returnsInHanded_of_calls own started noInit witness ?_
  intro w tape i _ hsh _ hok hpre hholds
  obtain ⟨_, _, _, fn', hfn', _, _, _, _, hval⟩ := hok
  have e : fn' = fn := Option.some.inj (hfn'.symm.trans hfn)
  subst e
  obtain ⟨⟨⟨ds, gs, before, hw, hc⟩, hx⟩, hz⟩ := hpre
  have hw' := DataW.Whole.of_heap (w' := w.forCall tape i) (by rfl) hw
  refine (contract (w.forCall tape i) w.heap.size i.args ds gs before hval hw' hc (hz.weights hw) (hX _ _ _ (by rfl) hx) hsh hholds).mono fun e W' ⟨v, he, hp⟩ => ?_
  subst he
  exact ChangeSpec.post_blind hp
end
theorem glob_open {P : Program} {w : World} {β : Book} {g : Nat} {t : TypeId} {k : IntKind} (h : w.ShapedOpen P) (hg : g < P.globals.size) (h0 : ((begin P (fun _ _ => 0) default).world.heap[g]?).bind Obj.row? = some (#[.int k 0], t))
    (hb : P.buildable t = true) (hc : P.cellTypes P.depth t = some [t]) (hu : P.underlying t = some (.int k)) (hf : β.free g) : ∃ m, GlobAt β w g 1 fun _ => .int k m := by
  obtain ⟨m, hm⟩ := Go.Proofs.cell_of_shapedOpen_int h hg h0 rfl hb hc hu
  obtain ⟨cs, hh, hs, _⟩ := h.1 g _ t hg h0
  refine ⟨m, .ipt (fun _ => .int k m) (by decide) hf (fun j hj => ?_) (fun _ _ => rfl) (fun _ _ => .int) (fun _ _ => .int), t, ?_⟩
  · obtain rfl : j = 0 := Nat.lt_one_iff.1 hj
    exact hm
  · unfold World.shape?
    rw [hh]
    show some (t, cs.size) = some (t, 1)
    rw [hs]; rfl
end Go.Am
