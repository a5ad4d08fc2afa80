/- Part of the proof: GS17, GS18, GS19, GS20, Inv, GE1, GE2, Nod. -/
import Derived.Test.YtmhipmiacghgeaaGreatDoorM6
import Derived.Test.YtmhipmiacghgeaaGreatDoorProg
import Derived.Test.YtmhipmiacghgeaaGreatDoorM3
import Derived.Test.YtmhipmiacghgeaaGreatDoorM4
namespace Go.Proofs.YtmhipmiacghgeaaGreatDoor
open Go Go.Am Go.Sp
set_option maxRecDepth 100000

theorem renc_int (n : Int) : Pure Tryz.prog gl0 98 [.agg [.int .i64 1, .int .i64 n, bys 0 (fun _ => 0), .isl 4 0 (fun _ _ => .junk)]] (il .u8 (It.int n).enc) := by
  have hw := wu64_by n
  refine pure_sk (own := ow0) Tryz.func98 (by kernel_rfl) mixed (by kernel_rfl)
    (.tt (.dc (true) 139 ([AV.int IntKind.u64 (IntKind.wrap IntKind.u64 n), AV.int IntKind.i64 (8 : Int)]) (bys (8) (numB (IntKind.wrap IntKind.u64 n) (8))) (.req (9 ≤ 140737488355328) (.out (AV.isl (1) (9) fun (r k : Nat) => AV.int IntKind.u8 (bif Nat.blt (r + 0) (1) then intOfAV (atL [AV.int IntKind.u8 (1 : Int)] k) else numB (IntKind.wrap IntKind.u64 n) (8) (r + 0 - 1))) [] (il IntKind.u8 (It.enc (It.int n))) []))))
    (by kernel_rfl) ?_
  refine k_tt ?_
  refine k_dc (rnum7_c (IntKind.wrap IntKind.u64 n) (by first | assumption | omega) (by first | assumption | omega) (8) (by first | assumption | omega) (by first | assumption | omega)) ?_
  refine k_req (by first | omega | (simp only [Int.toNat_natCast]; omega)) ?_
  exact k_out (il_eq rfl (fun i hi => enc1 hi))

theorem renc_byt (n : Nat) (f : Nat → Int) (hn : n ≤ 1099511627776) : Pure Tryz.prog gl0 98 [.agg [.int .i64 2, .int .i64 0, bys n f, .isl 4 0 (fun _ _ => .junk)]] (il .u8 (It.byt n f).enc) := by
  have hw := wu64_by n
  have e : IntKind.wrap .u64 (n : Int) = n := wu64 (by omega) (by omega)
  refine pure_sk (own := ow0) Tryz.func98 (by kernel_rfl) mixed (by kernel_rfl)
    (.ff (.tt (.dc (true) 139 ([AV.int IntKind.u64 (IntKind.wrap IntKind.u64 (↑n : Int)), AV.int IntKind.i64 (4 : Int)]) (bys (4) (numB (IntKind.wrap IntKind.u64 (↑n : Int)) (4))) (.req (5 ≤ 140737488355328) (.req ((5 + n) * 1 ≤ 140737488355328) (.out (AV.isl (1) (5 + n) fun (r k : Nat) => AV.int IntKind.u8 (bif Nat.blt (r + 0) (5) then bif Nat.blt (r + 0) (1) then intOfAV (atL [AV.int IntKind.u8 (2 : Int)] k) else numB (IntKind.wrap IntKind.u64 (↑n : Int)) (4) (r + 0 - 1) else f (r + 0 - 5))) [] (il IntKind.u8 (It.enc (It.byt n f))) []))))))
    (by kernel_rfl) ?_
  refine k_ff ?_
  refine k_tt ?_
  refine k_dc (rnum7_c (IntKind.wrap IntKind.u64 (↑n : Int)) (by first | assumption | omega) (by first | assumption | omega) (4) (by first | assumption | omega) (by first | assumption | omega)) ?_
  refine k_req (by first | omega | (simp only [Int.toNat_natCast]; omega)) ?_
  refine k_req (by first | omega | (simp only [Int.toNat_natCast]; omega)) ?_
  exact k_out (il_eq (byt_len n f).symm (fun i hi => by
                                                                                                     rw [e]
                                                                                                     exact enc2 hi))

theorem renc_lw (n : Nat) (c : Nat → It) (E A : Nat → List Int) (hn : n ≤ 1099511627776) (h0 : A 0 = 3 :: nbL n 4) (hE : ∀ k, A (k + 1) = A k ++ E k) (hA : ∀ k, k ≤ n → (A k).length ≤ 1099511627776)
    (hc : ∀ i, i < n → Pure Tryz.prog gl0 98 [(c i).av] (il .u8 (E i))) : Pure Tryz.prog gl0 98 [.agg [.int .i64 3, .int .i64 0, bys 0 (fun _ => 0), It.sl n c]] (il .u8 (A n)) := by
  have hw := wu64_by n
  have e : IntKind.wrap .u64 (n : Int) = n := wu64 (by omega) (by omega)
  have l0 : (A 0).length = 5 := by rw [h0]; simp [nbL_len]
  have ls : ∀ k, (A (k + 1)).length = (A k).length + (E k).length := fun k => by rw [hE, List.length_append]
  refine pure_sk (own := ow0) Tryz.func98 (by kernel_rfl) mixed (by kernel_rfl)
    (.ff (.ff (.dc (true) 139 ([AV.int IntKind.u64 (IntKind.wrap IntKind.u64 (↑n : Int)), AV.int IntKind.i64 (4 : Int)]) (bys (4) (numB (IntKind.wrap IntKind.u64 (↑n : Int)) (4))) (.req (5 ≤ 140737488355328) (.loop ({ x : Nat // x ≤ n }) (fun (x : { x : Nat // x ≤ n }) => mkSt [1, 3, 4] [AV.own (0) (4) (0) (0) (4), AV.osl (1 : Nat) (1 : Nat) (0 : Nat) (List.length (A (Subtype.val x))), AV.int IntKind.i64 (↑(Subtype.val x) : Int)] [some { es := 4, n := 1, mu := true, f := Rep.lst [[AV.int IntKind.i64 (3 : Int), AV.int IntKind.i64 (0 : Int), AV.isl (1) (0) fun (i x : Nat) => AV.int IntKind.u8 (0 : Int), AV.isl (4) n fun (i j : Nat) => atL (It.cells (c i)) j]] }, ilO IntKind.u8 (A (Subtype.val x))]) (fun (x : { x : Nat // x ≤ n }) => n - Subtype.val x) (⟨(0 : Nat), Nat.zero_le n⟩) ([1, 3, 4]) ([0, 112]) ([AV.own (0) (4) (0) (0) (4), AV.osl (1) (1) (0) (5), AV.int IntKind.i64 (0 : Int)]) ([some { es := 4, n := 1, mu := true, f := Rep.lst [[AV.int IntKind.i64 (3 : Int), AV.int IntKind.i64 (0 : Int), AV.isl (1) (0) fun (i x : Nat) => AV.int IntKind.u8 (0 : Int), AV.isl (4) n fun (i j : Nat) => atL (It.cells (c i)) j]] }, some { es := 1, n := 5, mu := true, f := Rep.fn fun (i j : Nat) => AV.int IntKind.u8 (bif Nat.blt i (1) then intOfAV (atL [AV.int IntKind.u8 (3 : Int)] j) else numB (IntKind.wrap IntKind.u64 (↑n : Int)) (4) (i - 1)) }]) (fun x4 => (.br (decide ((↑x4.1 : Int) < (↑n : Int))) (.req ((0 : Int) ≤ (↑x4.1 : Int) ∧ (↑x4.1 : Int) < (↑n : Int)) (.dc (true) 98 ([AV.agg [AV.int IntKind.i64 (It.kind (c (Int.toNat (↑x4.1 : Int)))), AV.int IntKind.i64 (It.num (c (Int.toNat (↑x4.1 : Int)))), AV.isl (1) (It.nb (c (Int.toNat (↑x4.1 : Int)))) fun (i x : Nat) => AV.int IntKind.u8 (It.fb (c (Int.toNat (↑x4.1 : Int))) i), AV.isl (4) (It.nl (c (Int.toNat (↑x4.1 : Int)))) (It.row (c (Int.toNat (↑x4.1 : Int))))]]) (il IntKind.u8 (E (Int.toNat (↑x4.1 : Int)))) (.req ((List.length (A (Subtype.val x4)) + List.length (E (Int.toNat (↑x4.1 : Int)))) * 1 ≤ 140737488355328) (.again (Again (0) (fun (x : { x : Nat // x ≤ n }) => mkSt [1, 3, 4] [AV.own (0) (4) (0) (0) (4), AV.osl (1 : Nat) (1 : Nat) (0 : Nat) (List.length (A (Subtype.val x))), AV.int IntKind.i64 (↑(Subtype.val x) : Int)] [some { es := 4, n := 1, mu := true, f := Rep.lst [[AV.int IntKind.i64 (3 : Int), AV.int IntKind.i64 (0 : Int), AV.isl (1) (0) fun (i x : Nat) => AV.int IntKind.u8 (0 : Int), AV.isl (4) n fun (i j : Nat) => atL (It.cells (c i)) j]] }, ilO IntKind.u8 (A (Subtype.val x))]) (fun (x : { x : Nat // x ≤ n }) => n - Subtype.val x) x4) ([1, 3, 4]) ([0, 98]) ([AV.own (0) (4) (0) (0) (4), AV.osl (1) (1) (0) (List.length (A (Subtype.val x4)) + List.length (E (Int.toNat (↑x4.1 : Int)))), AV.int IntKind.i64 (IntKind.wrap IntKind.i64 ((↑x4.1 : Int) + (1 : Int)))]) ([some { es := 4, n := 1, mu := true, f := Rep.lst [[AV.int IntKind.i64 (3 : Int), AV.int IntKind.i64 (0 : Int), AV.isl (1) (0) fun (i x : Nat) => AV.int IntKind.u8 (0 : Int), AV.isl (4) n fun (i j : Nat) => atL (It.cells (c i)) j]] }, some { es := 1, n := List.length (A (Subtype.val x4)) + List.length (E (Int.toNat (↑x4.1 : Int))), mu := true, f := Rep.fn fun (i j : Nat) => AV.int IntKind.u8 (bif Nat.blt i (List.length (A (Subtype.val x4))) then List.getD (A (Subtype.val x4)) i (0 : Int) else List.getD (E (Int.toNat (↑x4.1 : Int))) (i - List.length (A (Subtype.val x4))) (0 : Int)) }]))))) (.out (AV.isl (1) (List.length (A (Subtype.val x4))) fun (r k : Nat) => AV.int IntKind.u8 (List.getD (A (Subtype.val x4)) (r + 0) (0 : Int))) [] (il IntKind.u8 (A n)) []))))))))
    (by kernel_rfl) ?_
  refine k_ff ?_
  refine k_ff ?_
  refine k_dc (rnum7_c (IntKind.wrap IntKind.u64 (↑n : Int)) (by first | assumption | omega) (by first | assumption | omega) (4) (by first | assumption | omega) (by first | assumption | omega)) ?_
  refine k_req (by first | omega | (simp only [Int.toNat_natCast]; omega)) ?_
  --LOOPINFO kept [1] changed [3, 4] objects [0, 112]
  --LOOPINFO   obj 0: some { es := 4, n := 1, mu := true, f := Rep.lst [[AV.int IntKind.i64 (3 : Int), AV.int IntKind.i64 (0 : Int), AV.isl (1) (0) fun (i x : Nat) => AV.int IntKind.u8 (0 : Int), AV.isl (4) n fun (i j : Nat) => atL (It.cells (c i)) j]] }
  refine k_loop (fun _ hs => hs.le (by repeat' (first | exact trivial | (first | exact Ent.refl _ | exact inc_ent (by omega) | exact Ent.nil rfl | exact Ent.of_eq (congrArg (AV.osl _ _ _) (by first | omega | (dsimp only; omega))) | exact Ent.of_eq (congrArg (AV.int _) (by first | omega | (dsimp only; omega)))) | refine And.intro ?_ ?_)) (⟨by first | exact ObEnt.refl _ | exact ObEnt.junk | exact ObEnt.zero | exact ObEnt.push rfl rfl | exact ObEnt.pushRow rfl | exact ObEnt.len (by omega) | exact ObEnt.row (by repeat' (first | exact trivial | (first | exact Ent.refl _ | exact inc_ent (by omega) | exact Ent.nil rfl | exact Ent.of_eq (congrArg (AV.osl _ _ _) (by first | omega | (dsimp only; omega))) | exact Ent.of_eq (congrArg (AV.int _) (by first | omega | (dsimp only; omega)))) | refine And.intro ?_ ?_)), obl_eq l0.symm (fun i hi => by
                                                                                                     rw [e, h0]
                                                                                                     exact enc1 hi), trivial⟩)) (fun x4 => ?_)
  refine k_br (fun h5 => ?_) (fun h5 => ?_)
  · have g5 := cnd_dec_t h5
    refine k_req (by first | omega | (simp only [Int.toNat_natCast]; omega)) ?_
    refine k_dc (hc (Int.toNat (↑x4.1 : Int)) (by first | assumption | omega)) ?_
    refine k_req (by have q1 := hA (x4.1 + 1) (by omega); have q2 := ls x4.1; simp only [Int.toNat_natCast]; omega) ?_
    exact k_again (⟨x4.1 + 1, by omega⟩) (fun _ hs => hs.le (⟨by first | exact Ent.refl _ | exact inc_ent (by omega) | exact Ent.nil rfl | exact Ent.of_eq (congrArg (AV.osl _ _ _) (by first | omega | (dsimp only; omega))) | exact Ent.of_eq (congrArg (AV.int _) (by first | omega | (dsimp only; omega))), Ent.of_eq (congrArg (AV.osl 1 1 0) (ls x4.1).symm), by first | exact Ent.refl _ | exact inc_ent (by omega) | exact Ent.nil rfl | exact Ent.of_eq (congrArg (AV.osl _ _ _) (by first | omega | (dsimp only; omega))) | exact Ent.of_eq (congrArg (AV.int _) (by first | omega | (dsimp only; omega))), trivial⟩) (⟨by first | exact ObEnt.refl _ | exact ObEnt.junk | exact ObEnt.zero | exact ObEnt.push rfl rfl | exact ObEnt.pushRow rfl | exact ObEnt.len (by omega) | exact ObEnt.row (by repeat' (first | exact trivial | (first | exact Ent.refl _ | exact inc_ent (by omega) | exact Ent.nil rfl | exact Ent.of_eq (congrArg (AV.osl _ _ _) (by first | omega | (dsimp only; omega))) | exact Ent.of_eq (congrArg (AV.int _) (by first | omega | (dsimp only; omega)))) | refine And.intro ?_ ?_)), obl_app (hE x4.1) rfl, trivial⟩)) (by first | omega | (dsimp only; omega) | (simp; omega))
  · have g5 := cnd_dec_f h5
    exact k_out (Ent.of_eq (by rw [show x4.1 = n by omega]; rfl))

theorem renc_c : ∀ x : It, x.enc.length ≤ 1099511627776 → Pure Tryz.prog gl0 98 [x.av] (il .u8 x.enc)
  | .int n, _ => renc_int n
  | .byt n f, h => renc_byt n f (by rw [byt_len] at h; omega)
  | .li n c, h => renc_lw n c (fun i => (c i).enc) (It.encP n c) (by have := It.encP_len n c n; rw [It.enc_li] at h; omega) (It.encP_zero n c) (It.encP_succ n c) (fun k hk => Nat.le_trans (It.encP_le n c hk) h)
      (fun i hi => renc_c (c i) (by have := It.enc_child (c := c) hi; omega))

/-- Which functions hand over what they make, and what they are given. -/
def ow3 : FuncId → Option (List Bool) := fun f => bif Nat.beq f 156 || Nat.beq f 138 then some [false] else bif Nat.beq f 173 then some [true, false, false] else bif Nat.beq f 154 then some [true, false] else none

theorem number_g (n : Nat) (f : Nat → Nat → Int) (v : Int) (h0 : 0 ≤ v) (hv : v < 18446744073709551616) (size : Nat) (h1 : 1 ≤ size) (h8 : size ≤ 8) (hl : n ≤ 1099511627776) :
    Gives Tryz.prog gl0 173 [⟨1, n, true, .fn fun i j => .int .u8 (f i j)⟩] [.osl 0 1 0 n, .int .u64 v, .int .i64 size] (.osl 1 1 0 (n + size)) [none, some ⟨1, n + size, true, .fn fun i j => .int .u8 (bif Nat.blt i n then f i j else numB v size (i - n))⟩] := by
  refine gives_sk (own := ow0) (hand := true) Tryz.func173 (by kernel_rfl) mixed (by kernel_rfl)
    (.loop ({ x : Nat // x ≤ size }) (fun (x : { x : Nat // x ≤ size }) => mkSt [1, 0, 7] [AV.int IntKind.u64 v, AV.osl (1 : Nat) (1 : Nat) (0 : Nat) (n + Subtype.val x), AV.int IntKind.i64 ((↑size : Int) - (1 : Int) - (↑(Subtype.val x) : Int))] [none, some { es := (1 : Nat), n := n + Subtype.val x, mu := true, f := Rep.fn fun (i j : Nat) => AV.int IntKind.u8 (bif Nat.blt i n then f i j else numB v size (i - n)) }]) (fun (x : { x : Nat // x ≤ size }) => size - Subtype.val x) (⟨(0 : Nat), Nat.zero_le size⟩) ([1, 0, 7]) ([33, 0]) ([AV.int IntKind.u64 v, AV.osl (1) (1) (0) n, AV.int IntKind.i64 (IntKind.wrap IntKind.i64 ((↑size : Int) - (1 : Int)))]) ([none, some { es := 1, n := n, mu := true, f := Rep.fn fun (i j : Nat) => AV.int IntKind.u8 (f i j) }]) (fun x0 => (.br (decide ((↑size : Int) - (1 : Int) - (↑x0.1 : Int) ≥ (0 : Int))) (.req ((0 : Int) ≤ IntKind.wrap IntKind.i64 ((8 : Int) * ((↑size : Int) - (1 : Int) - (↑x0.1 : Int)))) (.req ((n + x0.1 + 1) * 1 ≤ 140737488355328) (.again (Again (1) (fun (x : { x : Nat // x ≤ size }) => mkSt [1, 0, 7] [AV.int IntKind.u64 v, AV.osl (1 : Nat) (1 : Nat) (0 : Nat) (n + Subtype.val x), AV.int IntKind.i64 ((↑size : Int) - (1 : Int) - (↑(Subtype.val x) : Int))] [none, some { es := (1 : Nat), n := n + Subtype.val x, mu := true, f := Rep.fn fun (i j : Nat) => AV.int IntKind.u8 (bif Nat.blt i n then f i j else numB v size (i - n)) }]) (fun (x : { x : Nat // x ≤ size }) => size - Subtype.val x) x0) ([1, 0, 7]) ([114, 74]) ([AV.int IntKind.u64 v, AV.osl (1) (1) (0) (n + x0.1 + 1), AV.int IntKind.i64 (IntKind.wrap IntKind.i64 ((↑size : Int) - (1 : Int) - (↑x0.1 : Int) - (1 : Int)))]) ([none, some { es := 1, n := n + x0.1 + 1, mu := true, f := Rep.fn fun (i j : Nat) => AV.int IntKind.u8 (bif Nat.blt i (n + x0.1) then bif Nat.blt i n then f i j else numB v size (i - n) else intOfAV (atL [AV.int IntKind.u8 (IntKind.wrap IntKind.u8 (Int.fdiv v ((2 : Int) ^ min (Int.toNat (IntKind.wrap IntKind.i64 ((8 : Int) * ((↑size : Int) - (1 : Int) - (↑x0.1 : Int))))) (64))))] j)) }])))) (.out (AV.osl (1) (1) (0) (n + x0.1)) ([none, some { es := 1, n := n + x0.1, mu := true, f := Rep.fn fun (i j : Nat) => AV.int IntKind.u8 (bif Nat.blt i n then f i j else numB v size (i - n)) }]) (AV.osl (1 : Nat) (1 : Nat) (0 : Nat) (n + size)) ([none, some { es := (1 : Nat), n := n + size, mu := true, f := Rep.fn fun (i j : Nat) => AV.int IntKind.u8 (bif Nat.blt i n then f i j else numB v size (i - n)) }])))))
    (by kernel_rfl) ?_
  --LOOPINFO kept [1] changed [0, 7] objects [0, 290]
  refine k_loop (fun _ hs => hs.le (⟨by first | exact Ent.refl _ | exact inc_ent (by omega) | exact Ent.nil rfl | exact Ent.of_eq (congrArg (AV.osl _ _ _) (by first | omega | (dsimp only; omega))) | exact Ent.of_eq (congrArg (AV.int _) (by first | omega | (dsimp only; omega))), by first | exact Ent.refl _ | exact inc_ent (by omega) | exact Ent.nil rfl | exact Ent.of_eq (congrArg (AV.osl _ _ _) (by first | omega | (dsimp only; omega))) | exact Ent.of_eq (congrArg (AV.int _) (by first | omega | (dsimp only; omega))), Ent.of_eq (congrArg _ (by rw [wI (by omega) (by omega)]; dsimp only; omega)), trivial⟩) (⟨numb_ob rfl, trivial⟩)) (fun x0 => ?_)
  try (have q0 := x0.2; dsimp only at q0)
  refine k_br (fun h1 => ?_) (fun h1 => ?_)
  · have g1 := cnd_dec_t h1
    refine k_req (by rw [wI (by omega) (by omega)]; omega) ?_
    refine k_req (by first | omega | (simp only [Int.toNat_natCast]; omega)) ?_
    exact k_again (⟨x0.1 + 1, by omega⟩) (fun _ hs => hs.le (⟨by first | exact Ent.refl _ | exact inc_ent (by omega) | exact Ent.nil rfl | exact Ent.of_eq (congrArg (AV.osl _ _ _) (by first | omega | (dsimp only; omega))) | exact Ent.of_eq (congrArg (AV.int _) (by first | omega | (dsimp only; omega))), by first | exact Ent.refl _ | exact inc_ent (by omega) | exact Ent.nil rfl | exact Ent.of_eq (congrArg (AV.osl _ _ _) (by first | omega | (dsimp only; omega))) | exact Ent.of_eq (congrArg (AV.int _) (by first | omega | (dsimp only; omega))), Ent.of_eq (congrArg _ (by rw [wI (by omega) (by omega)]; dsimp only; omega)), trivial⟩) (⟨numb_obs (shr_num (by omega) h8), trivial⟩)) (by first | omega | (dsimp only; omega) | (simp; omega))
  · have g1 := cnd_dec_f h1
    exact k_outg (Ent.of_eq (congrArg (AV.osl 1 1 0) (by omega))) (by repeat' (first | exact trivial | (first | exact ObEnt.refl _ | exact ObEnt.junk | exact ObEnt.zero | exact ObEnt.push rfl rfl | exact ObEnt.pushRow rfl | exact ObEnt.len (by omega) | exact ObEnt.row (by repeat' (first | exact trivial | (first | exact Ent.refl _ | exact inc_ent (by omega) | exact Ent.nil rfl | exact Ent.of_eq (congrArg (AV.osl _ _ _) (by first | omega | (dsimp only; omega))) | exact Ent.of_eq (congrArg (AV.int _) (by first | omega | (dsimp only; omega)))) | refine And.intro ?_ ?_))) | refine And.intro ?_ ?_))

theorem number_h (b : Int) (v : Int) (h0 : 0 ≤ v) (hv : v < 18446744073709551616) (size : Nat) (h1 : 1 ≤ size) (h8 : size ≤ 8) :
    Gives Tryz.prog gl0 173 [⟨1, 1, true, .lst [[.int .u8 b]]⟩] [.osl 0 1 0 1, .int .u64 v, .int .i64 size] (.osl 1 1 0 (1 + size)) [none, some ⟨1, 1 + size, true, .fn fun i _ => .int .u8 (bif Nat.blt i 1 then b else numB v size (i - 1))⟩] := by
  refine gives_sk (own := ow0) (hand := true) Tryz.func173 (by kernel_rfl) mixed (by kernel_rfl)
    (.loop ({ x : Nat // x ≤ size }) (fun (x : { x : Nat // x ≤ size }) => mkSt [1, 0, 7] [AV.int IntKind.u64 v, AV.osl (1 : Nat) (1 : Nat) (0 : Nat) ((1 : Nat) + Subtype.val x), AV.int IntKind.i64 ((↑size : Int) - (1 : Int) - (↑(Subtype.val x) : Int))] [none, some { es := (1 : Nat), n := (1 : Nat) + Subtype.val x, mu := true, f := Rep.fn fun (i x : Nat) => AV.int IntKind.u8 (bif Nat.blt i (1 : Nat) then b else numB v size (i - (1 : Nat))) }]) (fun (x : { x : Nat // x ≤ size }) => size - Subtype.val x) (⟨(0 : Nat), Nat.zero_le size⟩) ([1, 0, 7]) ([33, 0]) ([AV.int IntKind.u64 v, AV.osl (1) (1) (0) (1), AV.int IntKind.i64 (IntKind.wrap IntKind.i64 ((↑size : Int) - (1 : Int)))]) ([none, some { es := 1, n := 1, mu := true, f := Rep.lst [[AV.int IntKind.u8 b]] }]) (fun x0 => (.br (decide ((↑size : Int) - (1 : Int) - (↑x0.1 : Int) ≥ (0 : Int))) (.req ((0 : Int) ≤ IntKind.wrap IntKind.i64 ((8 : Int) * ((↑size : Int) - (1 : Int) - (↑x0.1 : Int)))) (.req ((1 + x0.1 + 1) * 1 ≤ 140737488355328) (.again (Again (1) (fun (x : { x : Nat // x ≤ size }) => mkSt [1, 0, 7] [AV.int IntKind.u64 v, AV.osl (1 : Nat) (1 : Nat) (0 : Nat) ((1 : Nat) + Subtype.val x), AV.int IntKind.i64 ((↑size : Int) - (1 : Int) - (↑(Subtype.val x) : Int))] [none, some { es := (1 : Nat), n := (1 : Nat) + Subtype.val x, mu := true, f := Rep.fn fun (i x : Nat) => AV.int IntKind.u8 (bif Nat.blt i (1 : Nat) then b else numB v size (i - (1 : Nat))) }]) (fun (x : { x : Nat // x ≤ size }) => size - Subtype.val x) x0) ([1, 0, 7]) ([114, 74]) ([AV.int IntKind.u64 v, AV.osl (1) (1) (0) (1 + x0.1 + 1), AV.int IntKind.i64 (IntKind.wrap IntKind.i64 ((↑size : Int) - (1 : Int) - (↑x0.1 : Int) - (1 : Int)))]) ([none, some { es := 1, n := 1 + x0.1 + 1, mu := true, f := Rep.fn fun (i j : Nat) => AV.int IntKind.u8 (bif Nat.blt i (1 + x0.1) then bif Nat.blt i (1) then b else numB v size (i - 1) else intOfAV (atL [AV.int IntKind.u8 (IntKind.wrap IntKind.u8 (Int.fdiv v ((2 : Int) ^ min (Int.toNat (IntKind.wrap IntKind.i64 ((8 : Int) * ((↑size : Int) - (1 : Int) - (↑x0.1 : Int))))) (64))))] j)) }])))) (.out (AV.osl (1) (1) (0) (1 + x0.1)) ([none, some { es := 1, n := 1 + x0.1, mu := true, f := Rep.fn fun (i j : Nat) => AV.int IntKind.u8 (bif Nat.blt i (1 : Nat) then b else numB v size (i - (1 : Nat))) }]) (AV.osl (1 : Nat) (1 : Nat) (0 : Nat) ((1 : Nat) + size)) ([none, some { es := (1 : Nat), n := (1 : Nat) + size, mu := true, f := Rep.fn fun (i x : Nat) => AV.int IntKind.u8 (bif Nat.blt i (1 : Nat) then b else numB v size (i - (1 : Nat))) }])))))
    (by kernel_rfl) ?_
  --LOOPINFO kept [1] changed [0, 7] objects [0, 290]
  refine k_loop (fun _ hs => hs.le (⟨by first | exact Ent.refl _ | exact inc_ent (by omega) | exact Ent.nil rfl | exact Ent.of_eq (congrArg (AV.osl _ _ _) (by first | omega | (dsimp only; omega))) | exact Ent.of_eq (congrArg (AV.int _) (by first | omega | (dsimp only; omega))), by first | exact Ent.refl _ | exact inc_ent (by omega) | exact Ent.nil rfl | exact Ent.of_eq (congrArg (AV.osl _ _ _) (by first | omega | (dsimp only; omega))) | exact Ent.of_eq (congrArg (AV.int _) (by first | omega | (dsimp only; omega))), Ent.of_eq (congrArg _ (by rw [wI (by omega) (by omega)]; dsimp only; omega)), trivial⟩) (⟨numb_ob1 rfl, trivial⟩)) (fun x0 => ?_)
  try (have q0 := x0.2; dsimp only at q0)
  refine k_br (fun h1 => ?_) (fun h1 => ?_)
  · have g1 := cnd_dec_t h1
    refine k_req (by rw [wI (by omega) (by omega)]; omega) ?_
    refine k_req (by first | omega | (simp only [Int.toNat_natCast]; omega)) ?_
    exact k_again (⟨x0.1 + 1, by omega⟩) (fun _ hs => hs.le (⟨by first | exact Ent.refl _ | exact inc_ent (by omega) | exact Ent.nil rfl | exact Ent.of_eq (congrArg (AV.osl _ _ _) (by first | omega | (dsimp only; omega))) | exact Ent.of_eq (congrArg (AV.int _) (by first | omega | (dsimp only; omega))), by first | exact Ent.refl _ | exact inc_ent (by omega) | exact Ent.nil rfl | exact Ent.of_eq (congrArg (AV.osl _ _ _) (by first | omega | (dsimp only; omega))) | exact Ent.of_eq (congrArg (AV.int _) (by first | omega | (dsimp only; omega))), Ent.of_eq (congrArg _ (by rw [wI (by omega) (by omega)]; dsimp only; omega)), trivial⟩) (⟨numb_obs (f := fun _ _ => b) (shr_num (by omega) h8), trivial⟩)) (by first | omega | (dsimp only; omega) | (simp; omega))
  · have g1 := cnd_dec_f h1
    exact k_outg (Ent.of_eq (congrArg (AV.osl 1 1 0) (by omega))) (by repeat' (first | exact trivial | (first | exact ObEnt.refl _ | exact ObEnt.junk | exact ObEnt.zero | exact ObEnt.push rfl rfl | exact ObEnt.pushRow rfl | exact ObEnt.len (by omega) | exact ObEnt.row (by repeat' (first | exact trivial | (first | exact Ent.refl _ | exact inc_ent (by omega) | exact Ent.nil rfl | exact Ent.of_eq (congrArg (AV.osl _ _ _) (by first | omega | (dsimp only; omega))) | exact Ent.of_eq (congrArg (AV.int _) (by first | omega | (dsimp only; omega)))) | refine And.intro ?_ ?_))) | refine And.intro ?_ ?_))

theorem write_int (l : List Int) (n : Int) (hl : l.length ≤ 16384) : Gives Tryz.prog gl0 154 [⟨1, l.length, true, .fn (ilF .u8 l)⟩] [.osl 0 1 0 l.length, .agg [.int .i64 1, .int .i64 n, bys 0 (fun _ => 0), .isl 4 0 (fun _ _ => .junk)]]
    (.osl 1 1 0 (l ++ (It.int n).enc).length) [none, ilO .u8 (l ++ (It.int n).enc)] := by
  have hw := wu64_by n
  refine gives_sk (own := ow3) (hand := true) Tryz.func154 (by kernel_rfl) mixed (by kernel_rfl)
    (.br (decide ((↑(List.length l) : Int) > (16384 : Int))) (.out (AV.osl (0) (1) (0) (List.length l)) ([some { es := 1, n := List.length l, mu := true, f := Rep.fn fun (i j : Nat) => AV.int IntKind.u8 (List.getD l i (0 : Int)) }]) (AV.osl (1 : Nat) (1 : Nat) (0 : Nat) (List.length (l ++ It.enc (It.int n)))) ([none, ilO IntKind.u8 (l ++ It.enc (It.int n))])) (.req ((List.length l + 1) * 1 ≤ 140737488355328) (.tt (.gc 173 ([{ es := 1, n := List.length l + 1, mu := true, f := Rep.fn fun (i j : Nat) => AV.int IntKind.u8 (bif Nat.blt i (List.length l) then List.getD l i (0 : Int) else intOfAV (atL [AV.int IntKind.u8 (IntKind.wrap IntKind.u8 (1 : Int))] j)) }]) ([AV.osl (0) (1) (0) (List.length l + 1), AV.int IntKind.u64 (IntKind.wrap IntKind.u64 n), AV.int IntKind.i64 (8 : Int)]) (AV.osl (1 : Nat) (1 : Nat) (0 : Nat) (List.length l + 1 + 8)) ([none, some { es := (1 : Nat), n := List.length l + 1 + 8, mu := true, f := Rep.fn fun (i j : Nat) => AV.int IntKind.u8 (bif Nat.blt i (List.length l + 1) then bif Nat.blt i (List.length l) then List.getD l i (0 : Int) else intOfAV (atL [AV.int IntKind.u8 (IntKind.wrap IntKind.u8 (1 : Int))] j) else numB (IntKind.wrap IntKind.u64 n) (8) (i - (List.length l + 1))) }]) (.out (AV.osl (1) (1) (0) (List.length l + 1 + 8)) ([none, some { es := 1, n := List.length l + 1 + 8, mu := true, f := Rep.fn fun (i j : Nat) => AV.int IntKind.u8 (bif Nat.blt i (List.length l + 1) then bif Nat.blt i (List.length l) then List.getD l i (0 : Int) else intOfAV (atL [AV.int IntKind.u8 (IntKind.wrap IntKind.u8 (1 : Int))] j) else numB (IntKind.wrap IntKind.u64 n) (8) (i - (List.length l + 1))) }]) (AV.osl (1 : Nat) (1 : Nat) (0 : Nat) (List.length (l ++ It.enc (It.int n)))) ([none, ilO IntKind.u8 (l ++ It.enc (It.int n))]))))))
    (by kernel_rfl) ?_
  refine k_br (fun h0 => ?_) (fun h0 => ?_)
  · have g0 := cnd_dec_t h0
    exact k_outg ((by exfalso; omega)) ((by exfalso; omega))
  · have g0 := cnd_dec_f h0
    refine k_req (by first | omega | (simp only [Int.toNat_natCast]; omega)) ?_
    refine k_tt ?_
    refine k_gc (number_g (List.length l + 1) (fun (i j : Nat) => bif Nat.blt i (List.length l) then List.getD l i (0 : Int) else intOfAV (atL [AV.int IntKind.u8 (IntKind.wrap IntKind.u8 (1 : Int))] j)) (IntKind.wrap IntKind.u64 n) (by first | assumption | omega) (by first | assumption | omega) (8) (by first | assumption | omega) (by first | assumption | omega) (by first | assumption | omega)) ?_
    exact k_outg (Ent.of_eq (congrArg (AV.osl 1 1 0) (wr_int l n))) (⟨obl_eq (wr_int l n) (fun i hi => wr1 hi), trivial⟩)

theorem write_byt (l : List Int) (n : Nat) (f : Nat → Int) (hl : l.length ≤ 16384) (hn : n ≤ 16384) : Gives Tryz.prog gl0 154 [⟨1, l.length, true, .fn (ilF .u8 l)⟩] [.osl 0 1 0 l.length, .agg [.int .i64 2, .int .i64 0, bys n f, .isl 4 0 (fun _ _ => .junk)]]
    (.osl 1 1 0 (l ++ (It.byt n f).enc).length) [none, ilO .u8 (l ++ (It.byt n f).enc)] := by
  have hw := wu64_by n
  have e : IntKind.wrap .u64 (n : Int) = n := wu64 (by omega) (by omega)
  refine gives_sk (own := ow3) (hand := true) Tryz.func154 (by kernel_rfl) mixed (by kernel_rfl)
    (.br (decide ((↑(List.length l) : Int) > (16384 : Int))) (.out (AV.osl (0) (1) (0) (List.length l)) ([some { es := 1, n := List.length l, mu := true, f := Rep.fn fun (i j : Nat) => AV.int IntKind.u8 (List.getD l i (0 : Int)) }]) (AV.osl (1 : Nat) (1 : Nat) (0 : Nat) (List.length (l ++ It.enc (It.byt n f)))) ([none, ilO IntKind.u8 (l ++ It.enc (It.byt n f))])) (.req ((List.length l + 1) * 1 ≤ 140737488355328) (.ff (.tt (.gc 173 ([{ es := 1, n := List.length l + 1, mu := true, f := Rep.fn fun (i j : Nat) => AV.int IntKind.u8 (bif Nat.blt i (List.length l) then List.getD l i (0 : Int) else intOfAV (atL [AV.int IntKind.u8 (IntKind.wrap IntKind.u8 (2 : Int))] j)) }]) ([AV.osl (0) (1) (0) (List.length l + 1), AV.int IntKind.u64 (IntKind.wrap IntKind.u64 (↑n : Int)), AV.int IntKind.i64 (4 : Int)]) (AV.osl (1 : Nat) (1 : Nat) (0 : Nat) (List.length l + 1 + 4)) ([none, some { es := (1 : Nat), n := List.length l + 1 + 4, mu := true, f := Rep.fn fun (i j : Nat) => AV.int IntKind.u8 (bif Nat.blt i (List.length l + 1) then bif Nat.blt i (List.length l) then List.getD l i (0 : Int) else intOfAV (atL [AV.int IntKind.u8 (IntKind.wrap IntKind.u8 (2 : Int))] j) else numB (IntKind.wrap IntKind.u64 (↑n : Int)) (4) (i - (List.length l + 1))) }]) (.req ((List.length l + 1 + 4 + n) * 1 ≤ 140737488355328) (.out (AV.osl (1) (1) (0) (List.length l + 1 + 4 + n)) ([none, some { es := 1, n := List.length l + 1 + 4 + n, mu := true, f := Rep.fn fun (i j : Nat) => AV.int IntKind.u8 (bif Nat.blt i (List.length l + 1 + 4) then bif Nat.blt i (List.length l + 1) then bif Nat.blt i (List.length l) then List.getD l i (0 : Int) else intOfAV (atL [AV.int IntKind.u8 (IntKind.wrap IntKind.u8 (2 : Int))] j) else numB (IntKind.wrap IntKind.u64 (↑n : Int)) (4) (i - (List.length l + 1)) else f (i - (List.length l + 1 + 4))) }]) (AV.osl (1 : Nat) (1 : Nat) (0 : Nat) (List.length (l ++ It.enc (It.byt n f)))) ([none, ilO IntKind.u8 (l ++ It.enc (It.byt n f))]))))))))
    (by kernel_rfl) ?_
  refine k_br (fun h0 => ?_) (fun h0 => ?_)
  · have g0 := cnd_dec_t h0
    exact k_outg ((by exfalso; omega)) ((by exfalso; omega))
  · have g0 := cnd_dec_f h0
    refine k_req (by first | omega | (simp only [Int.toNat_natCast]; omega)) ?_
    refine k_ff ?_
    refine k_tt ?_
    refine k_gc (number_g (List.length l + 1) (fun (i j : Nat) => bif Nat.blt i (List.length l) then List.getD l i (0 : Int) else intOfAV (atL [AV.int IntKind.u8 (IntKind.wrap IntKind.u8 (2 : Int))] j)) (IntKind.wrap IntKind.u64 (↑n : Int)) (by first | assumption | omega) (by first | assumption | omega) (4) (by first | assumption | omega) (by first | assumption | omega) (by first | assumption | omega)) ?_
    refine k_req (by first | omega | (simp only [Int.toNat_natCast]; omega)) ?_
    exact k_outg (Ent.of_eq (congrArg (AV.osl 1 1 0) (wr_byt l n f))) (⟨obl_eq (wr_byt l n f) (fun i hi => by
                                                                                                     rw [e]
                                                                                                     exact wr2 hi), trivial⟩)

theorem write_lw (l : List Int) (n : Nat) (c : Nat → It) (E A : Nat → List Int) (hl : l.length ≤ 16384) (hn : n ≤ 16384) (hA0 : A 0 = l ++ (3 :: nbL n 4)) (hE : ∀ k, A (k + 1) = A k ++ E k) (hA : ∀ k, k ≤ n → (A k).length ≤ 16384)
    (hc : ∀ i, i < n → ∀ l : List Int, l.length ≤ 16384 → (l ++ E i).length ≤ 16384 → Gives Tryz.prog gl0 154 [⟨1, l.length, true, .fn (ilF .u8 l)⟩] [.osl 0 1 0 l.length, (c i).av] (.osl 1 1 0 (l ++ E i).length) [none, ilO .u8 (l ++ E i)]) :
    Gives Tryz.prog gl0 154 [⟨1, l.length, true, .fn (ilF .u8 l)⟩] [.osl 0 1 0 l.length, .agg [.int .i64 3, .int .i64 0, bys 0 (fun _ => 0), It.sl n c]] (.osl 1 1 0 (A n).length) [none, ilO .u8 (A n)] := by
  have hw := wu64_by n
  have e : IntKind.wrap .u64 (n : Int) = n := wu64 (by omega) (by omega)
  have l0 : l.length + 1 + 4 = (A 0).length := by rw [hA0]; simp [nbL_len]
  have ls : ∀ k, (A (k + 1)).length = (A k).length + (E k).length := fun k => by rw [hE, List.length_append]
  refine gives_sk (own := ow3) (hand := true) Tryz.func154 (by kernel_rfl) mixed (by kernel_rfl)
    (.br (decide ((↑(List.length l) : Int) > (16384 : Int))) (.out (AV.osl (0) (1) (0) (List.length l)) ([some { es := 1, n := List.length l, mu := true, f := Rep.fn fun (i j : Nat) => AV.int IntKind.u8 (List.getD l i (0 : Int)) }]) (AV.osl (1 : Nat) (1 : Nat) (0 : Nat) (List.length (A n))) ([none, ilO IntKind.u8 (A n)])) (.req ((List.length l + 1) * 1 ≤ 140737488355328) (.ff (.ff (.gc 173 ([{ es := 1, n := List.length l + 1, mu := true, f := Rep.fn fun (i j : Nat) => AV.int IntKind.u8 (bif Nat.blt i (List.length l) then List.getD l i (0 : Int) else intOfAV (atL [AV.int IntKind.u8 (IntKind.wrap IntKind.u8 (3 : Int))] j)) }]) ([AV.osl (0) (1) (0) (List.length l + 1), AV.int IntKind.u64 (IntKind.wrap IntKind.u64 (↑n : Int)), AV.int IntKind.i64 (4 : Int)]) (AV.osl (1 : Nat) (1 : Nat) (0 : Nat) (List.length l + 1 + 4)) ([none, some { es := (1 : Nat), n := List.length l + 1 + 4, mu := true, f := Rep.fn fun (i j : Nat) => AV.int IntKind.u8 (bif Nat.blt i (List.length l + 1) then bif Nat.blt i (List.length l) then List.getD l i (0 : Int) else intOfAV (atL [AV.int IntKind.u8 (IntKind.wrap IntKind.u8 (3 : Int))] j) else numB (IntKind.wrap IntKind.u64 (↑n : Int)) (4) (i - (List.length l + 1))) }]) (.loop ({ x : Nat // x ≤ n }) (fun (x : { x : Nat // x ≤ n }) => mkSt [44, 45, 0, 46] [AV.isl (4) n fun (i j : Nat) => atL (It.cells (c i)) j, AV.int IntKind.i64 (↑n : Int), AV.osl (1 : Nat) (1 : Nat) (0 : Nat) (List.length (A (Subtype.val x))), AV.int IntKind.i64 (↑(Subtype.val x) : Int)] [none, ilO IntKind.u8 (A (Subtype.val x))]) (fun (x : { x : Nat // x ≤ n }) => n - Subtype.val x) (⟨(0 : Nat), Nat.zero_le n⟩) ([44, 45, 0, 46]) ([233, 185]) ([AV.isl (4) n fun (i j : Nat) => atL (It.cells (c i)) j, AV.int IntKind.i64 (↑n : Int), AV.osl (1) (1) (0) (List.length l + 1 + 4), AV.int IntKind.i64 (0 : Int)]) ([none, some { es := 1, n := List.length l + 1 + 4, mu := true, f := Rep.fn fun (i j : Nat) => AV.int IntKind.u8 (bif Nat.blt i (List.length l + 1) then bif Nat.blt i (List.length l) then List.getD l i (0 : Int) else intOfAV (atL [AV.int IntKind.u8 (IntKind.wrap IntKind.u8 (3 : Int))] j) else numB (IntKind.wrap IntKind.u64 (↑n : Int)) (4) (i - (List.length l + 1))) }]) (fun x6 => (.br (decide ((↑x6.1 : Int) < (↑n : Int))) (.req ((0 : Int) ≤ (↑x6.1 : Int) ∧ (↑x6.1 : Int) < (↑n : Int)) (.gc 154 ([{ es := 1, n := List.length (A (Subtype.val x6)), mu := true, f := Rep.fn fun (i j : Nat) => AV.int IntKind.u8 (List.getD (A (Subtype.val x6)) i (0 : Int)) }]) ([AV.osl (0) (1) (0) (List.length (A (Subtype.val x6))), AV.agg [AV.int IntKind.i64 (It.kind (c (Int.toNat (↑x6.1 : Int)))), AV.int IntKind.i64 (It.num (c (Int.toNat (↑x6.1 : Int)))), AV.isl (1) (It.nb (c (Int.toNat (↑x6.1 : Int)))) fun (i x : Nat) => AV.int IntKind.u8 (It.fb (c (Int.toNat (↑x6.1 : Int))) i), AV.isl (4) (It.nl (c (Int.toNat (↑x6.1 : Int)))) (It.row (c (Int.toNat (↑x6.1 : Int))))]]) (AV.osl (1 : Nat) (1 : Nat) (0 : Nat) (List.length (A (Subtype.val x6) ++ E (Int.toNat (↑x6.1 : Int))))) ([none, ilO IntKind.u8 (A (Subtype.val x6) ++ E (Int.toNat (↑x6.1 : Int)))]) (.again (Again (1) (fun (x : { x : Nat // x ≤ n }) => mkSt [44, 45, 0, 46] [AV.isl (4) n fun (i j : Nat) => atL (It.cells (c i)) j, AV.int IntKind.i64 (↑n : Int), AV.osl (1 : Nat) (1 : Nat) (0 : Nat) (List.length (A (Subtype.val x))), AV.int IntKind.i64 (↑(Subtype.val x) : Int)] [none, ilO IntKind.u8 (A (Subtype.val x))]) (fun (x : { x : Nat // x ≤ n }) => n - Subtype.val x) x6) ([44, 45, 0, 46]) ([90, 58]) ([AV.isl (4) n fun (i j : Nat) => atL (It.cells (c i)) j, AV.int IntKind.i64 (↑n : Int), AV.osl (1) (1) (0) (List.length (A (Subtype.val x6) ++ E (Int.toNat (↑x6.1 : Int)))), AV.int IntKind.i64 (IntKind.wrap IntKind.i64 ((↑x6.1 : Int) + (1 : Int)))]) ([none, some { es := 1, n := List.length (A (Subtype.val x6) ++ E (Int.toNat (↑x6.1 : Int))), mu := true, f := Rep.fn fun (i j : Nat) => AV.int IntKind.u8 (List.getD (A (Subtype.val x6) ++ E (Int.toNat (↑x6.1 : Int))) i (0 : Int)) }])))) (.out (AV.osl (1) (1) (0) (List.length (A (Subtype.val x6)))) ([none, some { es := 1, n := List.length (A (Subtype.val x6)), mu := true, f := Rep.fn fun (i j : Nat) => AV.int IntKind.u8 (List.getD (A (Subtype.val x6)) i (0 : Int)) }]) (AV.osl (1 : Nat) (1 : Nat) (0 : Nat) (List.length (A n))) ([none, ilO IntKind.u8 (A n)]))))))))))
    (by kernel_rfl) ?_
  refine k_br (fun h0 => ?_) (fun h0 => ?_)
  · have g0 := cnd_dec_t h0
    exact k_outg ((by exfalso; omega)) ((by exfalso; omega))
  · have g0 := cnd_dec_f h0
    refine k_req (by first | omega | (simp only [Int.toNat_natCast]; omega)) ?_
    refine k_ff ?_
    refine k_ff ?_
    refine k_gc (number_g (List.length l + 1) (fun (i j : Nat) => bif Nat.blt i (List.length l) then List.getD l i (0 : Int) else intOfAV (atL [AV.int IntKind.u8 (IntKind.wrap IntKind.u8 (3 : Int))] j)) (IntKind.wrap IntKind.u64 (↑n : Int)) (by first | omega | exact hA _ (by omega) | (have q := hA (x6.1 + 1) (by omega); rw [hE] at q; exact q)) (by first | omega | exact hA _ (by omega) | (have q := hA (x6.1 + 1) (by omega); rw [hE] at q; exact q)) (4) (by first | omega | exact hA _ (by omega) | (have q := hA (x6.1 + 1) (by omega); rw [hE] at q; exact q)) (by first | omega | exact hA _ (by omega) | (have q := hA (x6.1 + 1) (by omega); rw [hE] at q; exact q)) (by first | omega | exact hA _ (by omega) | (have q := hA (x6.1 + 1) (by omega); rw [hE] at q; exact q))) ?_
    --LOOPINFO kept [44, 45] changed [0, 46] objects [185, 490]
    refine k_loop (fun _ hs => hs.le (by repeat' (first | exact trivial | (first | exact Ent.refl _ | exact inc_ent (by omega) | exact Ent.nil rfl | exact Ent.of_eq (congrArg (AV.osl _ _ _) (by first | omega | (dsimp only; omega))) | exact Ent.of_eq (congrArg (AV.int _) (by first | omega | (dsimp only; omega)))) | refine And.intro ?_ ?_)) (⟨obl_eq l0 (fun i hi => by
                                                                                                     rw [e, hA0]
                                                                                                     exact wr1 (size := 4) hi), trivial⟩)) (fun x6 => ?_)
    refine k_br (fun h7 => ?_) (fun h7 => ?_)
    · have g7 := cnd_dec_t h7
      refine k_req (by first | omega | (simp only [Int.toNat_natCast]; omega)) ?_
      refine k_gc (hc (Int.toNat (↑x6.1 : Int)) (by first | omega | exact hA _ (by omega) | (have q := hA (x6.1 + 1) (by omega); rw [hE] at q; exact q)) (A (Subtype.val x6)) (by first | omega | exact hA _ (by omega) | (have q := hA (x6.1 + 1) (by omega); rw [hE] at q; exact q)) (by first | omega | exact hA _ (by omega) | (have q := hA (x6.1 + 1) (by omega); rw [hE] at q; exact q))) ?_
      exact k_again (⟨x6.1 + 1, by omega⟩) (fun _ hs => hs.le (⟨by first | exact Ent.refl _ | exact inc_ent (by omega) | exact Ent.nil rfl | exact Ent.of_eq (congrArg (AV.osl _ _ _) (by first | omega | (dsimp only; omega))) | exact Ent.of_eq (congrArg (AV.int _) (by first | omega | (dsimp only; omega))), by first | exact Ent.refl _ | exact inc_ent (by omega) | exact Ent.nil rfl | exact Ent.of_eq (congrArg (AV.osl _ _ _) (by first | omega | (dsimp only; omega))) | exact Ent.of_eq (congrArg (AV.int _) (by first | omega | (dsimp only; omega))), Ent.of_eq (congrArg (fun z => AV.osl 1 1 0 (List.length z)) (hE x6.1).symm), by first | exact Ent.refl _ | exact inc_ent (by omega) | exact Ent.nil rfl | exact Ent.of_eq (congrArg (AV.osl _ _ _) (by first | omega | (dsimp only; omega))) | exact Ent.of_eq (congrArg (AV.int _) (by first | omega | (dsimp only; omega))), trivial⟩) (⟨obl_cg (hE x6.1), trivial⟩)) (by first | omega | (dsimp only; omega) | (simp; omega))
    · have g7 := cnd_dec_f h7
      exact k_outg (Ent.of_eq (congrArg (fun z => AV.osl 1 1 0 (A z).length) (by omega))) (⟨obl_cg (congrArg A (by omega)), trivial⟩)

theorem write_int0 (n : Int) : Gives Tryz.prog gl0 154 [] [.nsl, .agg [.int .i64 1, .int .i64 n, bys 0 (fun _ => 0), .isl 4 0 (fun _ _ => .junk)]] (.osl 0 1 0 (It.int n).enc.length) [ilO .u8 (It.int n).enc] := by
  have hw := wu64_by n
  refine gives_sk (own := ow3) (hand := true) Tryz.func154 (by kernel_rfl) mixed (by kernel_rfl)
    (.ff (.req (1 ≤ 140737488355328) (.tt (.gc 173 ([{ es := 1, n := 1, mu := true, f := Rep.lst [[AV.int IntKind.u8 (IntKind.wrap IntKind.u8 (1 : Int))]] }]) ([AV.osl (0) (1) (0) (1), AV.int IntKind.u64 (IntKind.wrap IntKind.u64 n), AV.int IntKind.i64 (8 : Int)]) (AV.osl (1 : Nat) (1 : Nat) (0 : Nat) ((1 : Nat) + 8)) ([none, some { es := (1 : Nat), n := (1 : Nat) + 8, mu := true, f := Rep.fn fun (i x : Nat) => AV.int IntKind.u8 (bif Nat.blt i (1 : Nat) then IntKind.wrap IntKind.u8 (1 : Int) else numB (IntKind.wrap IntKind.u64 n) (8) (i - (1 : Nat))) }]) (.out (AV.osl (0) (1) (0) (9)) ([some { es := 1, n := 9, mu := true, f := Rep.fn fun (i j : Nat) => AV.int IntKind.u8 (bif Nat.blt i (1 : Nat) then IntKind.wrap IntKind.u8 (1 : Int) else numB (IntKind.wrap IntKind.u64 n) (8) (i - (1 : Nat))) }]) (AV.osl (0 : Nat) (1 : Nat) (0 : Nat) (List.length (It.enc (It.int n)))) ([ilO IntKind.u8 (It.enc (It.int n))]))))))
    (by kernel_rfl) ?_
  refine k_ff ?_
  refine k_req (by first | omega | (simp only [Int.toNat_natCast]; omega)) ?_
  refine k_tt ?_
  refine k_gc (number_h (IntKind.wrap IntKind.u8 (1 : Int)) (IntKind.wrap IntKind.u64 n) (by first | assumption | omega) (by first | assumption | omega) (8) (by first | assumption | omega) (by first | assumption | omega)) ?_
  exact k_outg (Ent.of_eq (congrArg (AV.osl 0 1 0) (int_len n).symm)) (⟨obl_eq (int_len n).symm (fun i hi => enc1 (size := 8) hi), trivial⟩)

theorem write_byt0 (n : Nat) (f : Nat → Int) (hn : n ≤ 16384) : Gives Tryz.prog gl0 154 [] [.nsl, .agg [.int .i64 2, .int .i64 0, bys n f, .isl 4 0 (fun _ _ => .junk)]] (.osl 0 1 0 (It.byt n f).enc.length) [ilO .u8 (It.byt n f).enc] := by
  have hw := wu64_by n
  have e : IntKind.wrap .u64 (n : Int) = n := wu64 (by omega) (by omega)
  refine gives_sk (own := ow3) (hand := true) Tryz.func154 (by kernel_rfl) mixed (by kernel_rfl)
    (.ff (.req (1 ≤ 140737488355328) (.ff (.tt (.gc 173 ([{ es := 1, n := 1, mu := true, f := Rep.lst [[AV.int IntKind.u8 (IntKind.wrap IntKind.u8 (2 : Int))]] }]) ([AV.osl (0) (1) (0) (1), AV.int IntKind.u64 (IntKind.wrap IntKind.u64 (↑n : Int)), AV.int IntKind.i64 (4 : Int)]) (AV.osl (1 : Nat) (1 : Nat) (0 : Nat) ((1 : Nat) + 4)) ([none, some { es := (1 : Nat), n := (1 : Nat) + 4, mu := true, f := Rep.fn fun (i x : Nat) => AV.int IntKind.u8 (bif Nat.blt i (1 : Nat) then IntKind.wrap IntKind.u8 (2 : Int) else numB (IntKind.wrap IntKind.u64 (↑n : Int)) (4) (i - (1 : Nat))) }]) (.req ((5 + n) * 1 ≤ 140737488355328) (.out (AV.osl (0) (1) (0) (5 + n)) ([some { es := 1, n := 5 + n, mu := true, f := Rep.fn fun (i j : Nat) => AV.int IntKind.u8 (bif Nat.blt i (5) then bif Nat.blt i (1) then IntKind.wrap IntKind.u8 (2 : Int) else numB (IntKind.wrap IntKind.u64 (↑n : Int)) (4) (i - 1) else f (i - 5)) }]) (AV.osl (0 : Nat) (1 : Nat) (0 : Nat) (List.length (It.enc (It.byt n f)))) ([ilO IntKind.u8 (It.enc (It.byt n f))]))))))))
    (by kernel_rfl) ?_
  refine k_ff ?_
  refine k_req (by first | omega | (simp only [Int.toNat_natCast]; omega)) ?_
  refine k_ff ?_
  refine k_tt ?_
  refine k_gc (number_h (IntKind.wrap IntKind.u8 (2 : Int)) (IntKind.wrap IntKind.u64 (↑n : Int)) (by first | assumption | omega) (by first | assumption | omega) (4) (by first | assumption | omega) (by first | assumption | omega)) ?_
  refine k_req (by first | omega | (simp only [Int.toNat_natCast]; omega)) ?_
  exact k_outg (Ent.of_eq (congrArg (AV.osl 0 1 0) (byt_len n f).symm)) (⟨obl_eq (byt_len n f).symm (fun i hi => by
                                                                                                     rw [e]
                                                                                                     exact enc2 hi), trivial⟩)

theorem write_lw0 (n : Nat) (c : Nat → It) (E A : Nat → List Int) (hn : n ≤ 16384) (hA0 : A 0 = 3 :: nbL n 4) (hE : ∀ k, A (k + 1) = A k ++ E k) (hA : ∀ k, k ≤ n → (A k).length ≤ 16384)
    (hc : ∀ i, i < n → ∀ l : List Int, l.length ≤ 16384 → (l ++ E i).length ≤ 16384 → Gives Tryz.prog gl0 154 [⟨1, l.length, true, .fn (ilF .u8 l)⟩] [.osl 0 1 0 l.length, (c i).av] (.osl 1 1 0 (l ++ E i).length) [none, ilO .u8 (l ++ E i)]) :
    Gives Tryz.prog gl0 154 [] [.nsl, .agg [.int .i64 3, .int .i64 0, bys 0 (fun _ => 0), It.sl n c]] (.osl 0 1 0 (A n).length) [ilO .u8 (A n)] := by
  have hw := wu64_by n
  have e : IntKind.wrap .u64 (n : Int) = n := wu64 (by omega) (by omega)
  have l0 : 1 + 4 = (A 0).length := by rw [hA0]; simp [nbL_len]
  have ls : ∀ k, (A (k + 1)).length = (A k).length + (E k).length := fun k => by rw [hE, List.length_append]
  refine gives_sk (own := ow3) (hand := true) Tryz.func154 (by kernel_rfl) mixed (by kernel_rfl)
    (.ff (.req (1 ≤ 140737488355328) (.ff (.ff (.gc 173 ([{ es := 1, n := 1, mu := true, f := Rep.lst [[AV.int IntKind.u8 (IntKind.wrap IntKind.u8 (3 : Int))]] }]) ([AV.osl (0) (1) (0) (1), AV.int IntKind.u64 (IntKind.wrap IntKind.u64 (↑n : Int)), AV.int IntKind.i64 (4 : Int)]) (AV.osl (1 : Nat) (1 : Nat) (0 : Nat) ((1 : Nat) + 4)) ([none, some { es := (1 : Nat), n := (1 : Nat) + 4, mu := true, f := Rep.fn fun (i x : Nat) => AV.int IntKind.u8 (bif Nat.blt i (1 : Nat) then IntKind.wrap IntKind.u8 (3 : Int) else numB (IntKind.wrap IntKind.u64 (↑n : Int)) (4) (i - (1 : Nat))) }]) (.loop ({ x : Nat // x ≤ n }) (fun (x : { x : Nat // x ≤ n }) => mkSt [44, 45, 0, 46] [AV.isl (4) n fun (i j : Nat) => atL (It.cells (c i)) j, AV.int IntKind.i64 (↑n : Int), AV.osl (0 : Nat) (1 : Nat) (0 : Nat) (List.length (A (Subtype.val x))), AV.int IntKind.i64 (↑(Subtype.val x) : Int)] [ilO IntKind.u8 (A (Subtype.val x))]) (fun (x : { x : Nat // x ≤ n }) => n - Subtype.val x) (⟨(0 : Nat), Nat.zero_le n⟩) ([44, 45, 0, 46]) ([184]) ([AV.isl (4) n fun (i j : Nat) => atL (It.cells (c i)) j, AV.int IntKind.i64 (↑n : Int), AV.osl (0) (1) (0) (5), AV.int IntKind.i64 (0 : Int)]) ([some { es := 1, n := 5, mu := true, f := Rep.fn fun (i j : Nat) => AV.int IntKind.u8 (bif Nat.blt i (1 : Nat) then IntKind.wrap IntKind.u8 (3 : Int) else numB (IntKind.wrap IntKind.u64 (↑n : Int)) (4) (i - (1 : Nat))) }]) (fun x5 => (.br (decide ((↑x5.1 : Int) < (↑n : Int))) (.req ((0 : Int) ≤ (↑x5.1 : Int) ∧ (↑x5.1 : Int) < (↑n : Int)) (.gc 154 ([{ es := 1, n := List.length (A (Subtype.val x5)), mu := true, f := Rep.fn fun (i j : Nat) => AV.int IntKind.u8 (List.getD (A (Subtype.val x5)) i (0 : Int)) }]) ([AV.osl (0) (1) (0) (List.length (A (Subtype.val x5))), AV.agg [AV.int IntKind.i64 (It.kind (c (Int.toNat (↑x5.1 : Int)))), AV.int IntKind.i64 (It.num (c (Int.toNat (↑x5.1 : Int)))), AV.isl (1) (It.nb (c (Int.toNat (↑x5.1 : Int)))) fun (i x : Nat) => AV.int IntKind.u8 (It.fb (c (Int.toNat (↑x5.1 : Int))) i), AV.isl (4) (It.nl (c (Int.toNat (↑x5.1 : Int)))) (It.row (c (Int.toNat (↑x5.1 : Int))))]]) (AV.osl (1 : Nat) (1 : Nat) (0 : Nat) (List.length (A (Subtype.val x5) ++ E (Int.toNat (↑x5.1 : Int))))) ([none, ilO IntKind.u8 (A (Subtype.val x5) ++ E (Int.toNat (↑x5.1 : Int)))]) (.again (Again (0) (fun (x : { x : Nat // x ≤ n }) => mkSt [44, 45, 0, 46] [AV.isl (4) n fun (i j : Nat) => atL (It.cells (c i)) j, AV.int IntKind.i64 (↑n : Int), AV.osl (0 : Nat) (1 : Nat) (0 : Nat) (List.length (A (Subtype.val x))), AV.int IntKind.i64 (↑(Subtype.val x) : Int)] [ilO IntKind.u8 (A (Subtype.val x))]) (fun (x : { x : Nat // x ≤ n }) => n - Subtype.val x) x5) ([44, 45, 0, 46]) ([57]) ([AV.isl (4) n fun (i j : Nat) => atL (It.cells (c i)) j, AV.int IntKind.i64 (↑n : Int), AV.osl (0) (1) (0) (List.length (A (Subtype.val x5) ++ E (Int.toNat (↑x5.1 : Int)))), AV.int IntKind.i64 (IntKind.wrap IntKind.i64 ((↑x5.1 : Int) + (1 : Int)))]) ([some { es := 1, n := List.length (A (Subtype.val x5) ++ E (Int.toNat (↑x5.1 : Int))), mu := true, f := Rep.fn fun (i j : Nat) => AV.int IntKind.u8 (List.getD (A (Subtype.val x5) ++ E (Int.toNat (↑x5.1 : Int))) i (0 : Int)) }])))) (.out (AV.osl (0) (1) (0) (List.length (A (Subtype.val x5)))) ([some { es := 1, n := List.length (A (Subtype.val x5)), mu := true, f := Rep.fn fun (i j : Nat) => AV.int IntKind.u8 (List.getD (A (Subtype.val x5)) i (0 : Int)) }]) (AV.osl (0 : Nat) (1 : Nat) (0 : Nat) (List.length (A n))) ([ilO IntKind.u8 (A n)]))))))))))
    (by kernel_rfl) ?_
  refine k_ff ?_
  refine k_req (by first | omega | (simp only [Int.toNat_natCast]; omega)) ?_
  refine k_ff ?_
  refine k_ff ?_
  refine k_gc (number_h (IntKind.wrap IntKind.u8 (3 : Int)) (IntKind.wrap IntKind.u64 (↑n : Int)) (by first | omega | exact hA _ (by omega) | (have q := hA (x5.1 + 1) (by omega); rw [hE] at q; exact q)) (by first | omega | exact hA _ (by omega) | (have q := hA (x5.1 + 1) (by omega); rw [hE] at q; exact q)) (4) (by first | omega | exact hA _ (by omega) | (have q := hA (x5.1 + 1) (by omega); rw [hE] at q; exact q)) (by first | omega | exact hA _ (by omega) | (have q := hA (x5.1 + 1) (by omega); rw [hE] at q; exact q))) ?_
  --LOOPINFO kept [44, 45] changed [0, 46] objects [184]
  refine k_loop (fun _ hs => hs.le (by repeat' (first | exact trivial | (first | exact Ent.refl _ | exact inc_ent (by omega) | exact Ent.nil rfl | exact Ent.of_eq (congrArg (AV.osl _ _ _) (by first | omega | (dsimp only; omega))) | exact Ent.of_eq (congrArg (AV.int _) (by first | omega | (dsimp only; omega)))) | refine And.intro ?_ ?_)) (⟨obl_eq l0 (fun i hi => by
                                                                                                     rw [e, hA0]
                                                                                                     exact enc1 (size := 4) hi), trivial⟩)) (fun x5 => ?_)
  refine k_br (fun h6 => ?_) (fun h6 => ?_)
  · have g6 := cnd_dec_t h6
    refine k_req (by first | omega | (simp only [Int.toNat_natCast]; omega)) ?_
    refine k_gc (hc (Int.toNat (↑x5.1 : Int)) (by first | omega | exact hA _ (by omega) | (have q := hA (x5.1 + 1) (by omega); rw [hE] at q; exact q)) (A (Subtype.val x5)) (by first | omega | exact hA _ (by omega) | (have q := hA (x5.1 + 1) (by omega); rw [hE] at q; exact q)) (by first | omega | exact hA _ (by omega) | (have q := hA (x5.1 + 1) (by omega); rw [hE] at q; exact q))) ?_
    exact k_again (⟨x5.1 + 1, by omega⟩) (fun _ hs => hs.le (⟨by first | exact Ent.refl _ | exact inc_ent (by omega) | exact Ent.nil rfl | exact Ent.of_eq (congrArg (AV.osl _ _ _) (by first | omega | (dsimp only; omega))) | exact Ent.of_eq (congrArg (AV.int _) (by first | omega | (dsimp only; omega))), by first | exact Ent.refl _ | exact inc_ent (by omega) | exact Ent.nil rfl | exact Ent.of_eq (congrArg (AV.osl _ _ _) (by first | omega | (dsimp only; omega))) | exact Ent.of_eq (congrArg (AV.int _) (by first | omega | (dsimp only; omega))), Ent.of_eq (congrArg (fun z => AV.osl 0 1 0 (List.length z)) (hE x5.1).symm), by first | exact Ent.refl _ | exact inc_ent (by omega) | exact Ent.nil rfl | exact Ent.of_eq (congrArg (AV.osl _ _ _) (by first | omega | (dsimp only; omega))) | exact Ent.of_eq (congrArg (AV.int _) (by first | omega | (dsimp only; omega))), trivial⟩) (⟨obl_cg (hE x5.1), trivial⟩)) (by first | omega | (dsimp only; omega) | (simp; omega))
  · have g6 := cnd_dec_f h6
    exact k_outg (Ent.of_eq (congrArg (fun z => AV.osl 0 1 0 (A z).length) (by omega))) (⟨obl_cg (congrArg A (by omega)), trivial⟩)

theorem write_c : ∀ (x : It) (l : List Int), l.length ≤ 16384 → (l ++ x.enc).length ≤ 16384 → Gives Tryz.prog gl0 154 [⟨1, l.length, true, .fn (ilF .u8 l)⟩] [.osl 0 1 0 l.length, x.av] (.osl 1 1 0 (l ++ x.enc).length) [none, ilO .u8 (l ++ x.enc)]
  | .int n, l, h, _ => write_int l n h
  | .byt n f, l, h, h' => write_byt l n f h (by rw [← wr_byt] at h'; omega)
  | .li n c, l, h, h' => by
    have hA : ∀ k, k ≤ n → (l ++ It.encP n c k).length ≤ 16384 := fun k hk => by
      have := It.encP_le n c hk
      rw [It.enc_li, List.length_append] at h'
      rw [List.length_append]
      omega
    exact write_lw l n c (fun i => (c i).enc) (fun k => l ++ It.encP n c k) h (by have := It.encP_len n c n; have := hA n (Nat.le_refl _); rw [List.length_append] at this; omega) (by rw [It.encP_zero]) (fun k => by rw [It.encP_succ, List.append_assoc]) hA
      (fun i hi l h h' => write_c (c i) l h h')

theorem write_n : ∀ x : It, x.enc.length ≤ 16384 → Gives Tryz.prog gl0 154 [] [.nsl, x.av] (.osl 0 1 0 x.enc.length) [ilO .u8 x.enc]
  | .int n, _ => write_int0 n
  | .byt n f, h => write_byt0 n f (by rw [byt_len] at h; omega)
  | .li n c, h => write_lw0 n c (fun i => (c i).enc) (It.encP n c) (by have := It.encP_len n c n; rw [It.enc_li] at h; omega) (It.encP_zero n c) (It.encP_succ n c) (fun k hk => Nat.le_trans (It.encP_le n c hk) h)
      (fun i _ l h h' => write_c (c i) l h h')

end Go.Proofs.YtmhipmiacghgeaaGreatDoor

namespace Go.Proofs.YtmhipmiacghgeaaGreatDoor
open Go Go.Am Go.Sp
set_option maxRecDepth 100000

theorem within1_w (x : It) (d : Int) (b : Bool) (hd : 0 < d ∧ d ≤ 8) (h : Pure Tryz.prog gl0 172 [x.av, .int .i64 (d - 1)] (.bool b)) : Pure Tryz.prog gl0 185 [x.av, .ipt 1 (atL [.int .i64 d])] (.bool (!b)) := by
  have hw : IntKind.wrap .i64 (d - 1) = d - 1 := wI (by omega) (by omega)
  rw [← hw] at h
  refine pure_sk (own := ow0) Tryz.func185 (by kernel_rfl) mixed (by kernel_rfl)
    (.sc (true) 172 ([AV.agg [AV.int IntKind.i64 (It.kind x), AV.int IntKind.i64 (It.num x), AV.isl (1) (It.nb x) fun (i x_1 : Nat) => AV.int IntKind.u8 (It.fb x i), AV.isl (4) (It.nl x) (It.row x)], AV.int IntKind.i64 (IntKind.wrap IntKind.i64 (d - (1 : Int)))]) (AV.bool b) (.out (AV.bool !b) [] (AV.bool !b) []))
    (by kernel_rfl) ?_
  refine k_sc (h) ?_
  exact k_out (Ent.refl _)

theorem indexI_w (n : Nat) (c : Nat → It) (d : Int) (p : Nat → Bool) (hn : n ≤ 1000) (hc : ∀ i, i < n → Pure Tryz.prog gl0 185 [(c i).av, .ipt 1 (atL [.int .i64 d])] (.bool (p i))) :
    Pure Tryz.prog gl0 193 [It.sl n c, .fn (.func 185) [] [.ipt 1 (atL [.int .i64 d])]] (.int .i64 (firstI p n 0)) := by
  refine pure_sk (own := ow0) Tryz.func193 (by kernel_rfl) mixed (by kernel_rfl)
    (.loop ({ x : Nat // x ≤ n ∧ (fun (i : Nat) => firstI p n (0 : Nat) = firstI p (n - i) i) x }) (fun (x : { x : Nat // x ≤ n ∧ (fun (i : Nat) => firstI p n (0 : Nat) = firstI p (n - i) i) x }) => mkSt [0, 1, 7, 8] [AV.isl (4) n fun (i j : Nat) => atL (It.cells (c i)) j, AV.fn (Fn.func (185 : FuncId)) [] [AV.ipt (1) (atL [AV.int IntKind.i64 d])], AV.int IntKind.i64 (↑n : Int), AV.int IntKind.i64 (↑(Subtype.val x) : Int)] []) (fun (x : { x : Nat // x ≤ n ∧ (fun (i : Nat) => firstI p n (0 : Nat) = firstI p (n - i) i) x }) => n - Subtype.val x) (⟨(0 : Nat), ⟨Nat.zero_le n, rfl⟩⟩) ([0, 1, 7, 8]) ([]) ([AV.isl (4) n fun (i j : Nat) => atL (It.cells (c i)) j, AV.fn (Fn.func (185 : FuncId)) [] [AV.ipt (1) (atL [AV.int IntKind.i64 d])], AV.int IntKind.i64 (↑n : Int), AV.int IntKind.i64 (0 : Int)]) ([]) (fun x0 => (.br (decide ((↑x0.1 : Int) < (↑n : Int))) (.req ((0 : Int) ≤ (↑x0.1 : Int) ∧ (↑x0.1 : Int) < (↑n : Int)) (.sc (true) 185 ([AV.agg [AV.int IntKind.i64 (It.kind (c (Int.toNat (↑x0.1 : Int)))), AV.int IntKind.i64 (It.num (c (Int.toNat (↑x0.1 : Int)))), AV.isl (1) (It.nb (c (Int.toNat (↑x0.1 : Int)))) fun (i x : Nat) => AV.int IntKind.u8 (It.fb (c (Int.toNat (↑x0.1 : Int))) i), AV.isl (4) (It.nl (c (Int.toNat (↑x0.1 : Int)))) (It.row (c (Int.toNat (↑x0.1 : Int))))], AV.ipt (1) (atL [AV.int IntKind.i64 d])]) (AV.bool (p (Int.toNat (↑x0.1 : Int)))) (.br (p (Int.toNat (↑x0.1 : Int))) (.out (AV.int IntKind.i64 (↑x0.1 : Int)) [] (AV.int IntKind.i64 (firstI p n (0 : Nat))) []) (.again (Again (0) (fun (x : { x : Nat // x ≤ n ∧ (fun (i : Nat) => firstI p n (0 : Nat) = firstI p (n - i) i) x }) => mkSt [0, 1, 7, 8] [AV.isl (4) n fun (i j : Nat) => atL (It.cells (c i)) j, AV.fn (Fn.func (185 : FuncId)) [] [AV.ipt (1) (atL [AV.int IntKind.i64 d])], AV.int IntKind.i64 (↑n : Int), AV.int IntKind.i64 (↑(Subtype.val x) : Int)] []) (fun (x : { x : Nat // x ≤ n ∧ (fun (i : Nat) => firstI p n (0 : Nat) = firstI p (n - i) i) x }) => n - Subtype.val x) x0) ([0, 1, 7, 8]) ([]) ([AV.isl (4) n fun (i j : Nat) => atL (It.cells (c i)) j, AV.fn (Fn.func (185 : FuncId)) [] [AV.ipt (1) (atL [AV.int IntKind.i64 d])], AV.int IntKind.i64 (↑n : Int), AV.int IntKind.i64 (IntKind.wrap IntKind.i64 ((↑x0.1 : Int) + (1 : Int)))]) ([]))))) (.out (AV.int IntKind.i64 (-1 : Int)) [] (AV.int IntKind.i64 (firstI p n (0 : Nat))) []))))
    (by kernel_rfl) ?_
  --LOOPINFO kept [0, 1, 7] changed [8] objects []
  refine k_loop (fun _ hs => hs.le (by repeat' (first | exact trivial | (first | exact Ent.refl _ | exact inc_ent (by omega) | exact Ent.nil rfl | exact Ent.of_eq (congrArg (AV.osl _ _ _) (by first | omega | (dsimp only; omega))) | exact Ent.of_eq (congrArg (AV.int _) (by first | omega | (dsimp only; omega)))) | refine And.intro ?_ ?_)) (trivial)) (fun x0 => ?_)
  try (have q0 := x0.2; dsimp only at q0)
  refine k_br (fun h1 => ?_) (fun h1 => ?_)
  · have g1 := cnd_dec_t h1
    refine k_req (by first | omega | (simp only [Int.toNat_natCast]; omega)) ?_
    refine k_sc (hc (Int.toNat (↑x0.1 : Int)) (by first | assumption | omega)) ?_
    refine k_br (fun h4 => ?_) (fun h4 => ?_)
    · have g4 := cnd_id_t h4
      try simp only [Int.toNat_natCast] at g4
      exact k_out (Ent.of_eq (congrArg _ (first_hit x0.2.2 (by omega) g4)))
    · have g4 := cnd_id_f h4
      try simp only [Int.toNat_natCast] at g4
      exact k_again (⟨x0.1 + 1, by omega, first_next x0.2.2 (by omega) g4⟩) (fun _ hs => hs.le (by repeat' (first | exact trivial | (first | exact Ent.refl _ | exact inc_ent (by omega) | exact Ent.nil rfl | exact Ent.of_eq (congrArg (AV.osl _ _ _) (by first | omega | (dsimp only; omega))) | exact Ent.of_eq (congrArg (AV.int _) (by first | omega | (dsimp only; omega)))) | refine And.intro ?_ ?_)) (trivial)) (by first | omega | (dsimp only; omega) | (simp; omega))
  · have g1 := cnd_dec_f h1
    exact k_out (Ent.of_eq (congrArg _ (first_miss x0.2.2 (by omega))))

theorem containsI_w (n : Nat) (c : Nat → It) (d : Int) (p : Nat → Bool) (hn : n ≤ 1000) (hc : ∀ i, i < n → Pure Tryz.prog gl0 185 [(c i).av, .ipt 1 (atL [.int .i64 d])] (.bool (p i))) :
    Pure Tryz.prog gl0 184 [It.sl n c, .fn (.func 185) [] [.ipt 1 (atL [.int .i64 d])]] (.bool (decide (firstI p n 0 ≥ 0))) := by
  refine pure_sk (own := ow0) Tryz.func184 (by kernel_rfl) mixed (by kernel_rfl)
    (.sc (true) 193 ([AV.isl (4) n fun (i j : Nat) => atL (It.cells (c i)) j, AV.fn (Fn.func (185 : FuncId)) [] [AV.ipt (1) (atL [AV.int IntKind.i64 d])]]) (AV.int IntKind.i64 (firstI p n (0 : Nat))) (.out (AV.bool (decide (firstI p n (0) ≥ (0 : Int)))) [] (AV.bool (decide (firstI p n (0 : Nat) ≥ (0 : Int)))) []))
    (by kernel_rfl) ?_
  refine k_sc ((indexI_w n c d p hn hc)) ?_
  exact k_out (Ent.refl _)

theorem within_int (n d : Int) : Pure Tryz.prog gl0 172 [.agg [.int .i64 1, .int .i64 n, bys 0 (fun _ => 0), .isl 4 0 (fun _ _ => .junk)], .int .i64 d] (.bool true) := by
  refine pure_sk (own := ow0) Tryz.func172 (by kernel_rfl) mixed (by kernel_rfl)
    (.tt (.out (AV.bool true) [] (AV.bool true) []))
    (by kernel_rfl) ?_
  refine k_tt ?_
  exact k_out (Ent.refl _)

theorem within_byt (n : Nat) (f : Nat → Int) (d : Int) : Pure Tryz.prog gl0 172 [.agg [.int .i64 2, .int .i64 0, bys n f, .isl 4 0 (fun _ _ => .junk)], .int .i64 d] (.bool true) := by
  refine pure_sk (own := ow0) Tryz.func172 (by kernel_rfl) mixed (by kernel_rfl)
    (.ff (.tt (.out (AV.bool true) [] (AV.bool true) [])))
    (by kernel_rfl) ?_
  refine k_ff ?_
  refine k_tt ?_
  exact k_out (Ent.refl _)

theorem within_lw (n : Nat) (c : Nat → It) (d : Int) (p : Nat → Bool) (hn : n < 9223372036854775808) (hc : 0 < d → n ≤ 1000 → Pure Tryz.prog gl0 184 [It.sl n c, .fn (.func 185) [] [.ipt 1 (atL [.int .i64 d])]] (.bool (decide (firstI p n 0 ≥ 0)))) :
    Pure Tryz.prog gl0 172 [.agg [.int .i64 3, .int .i64 0, bys 0 (fun _ => 0), It.sl n c], .int .i64 d] (.bool (decide (0 < d) && Nat.ble n 1000 && (List.range n).all (fun i => !p i))) := by
  refine pure_sk (own := ow0) Tryz.func172 (by kernel_rfl) mixed (by kernel_rfl)
    (.ff (.ff (.tt (.sc ((decide (d > (0 : Int)) && decide ((↑n : Int) ≤ (1000 : Int))) == true) 184 ([AV.isl (4) n fun (i j : Nat) => atL (It.cells (c i)) j, AV.fn (Fn.func (185 : Nat)) [] [AV.ipt (1) fun (k : Nat) => atL [AV.int IntKind.i64 d] k]]) (AV.bool (decide (firstI p n (0 : Nat) ≥ (0 : Int)))) (.out (AV.bool (decide (d > (0 : Int)) && decide ((↑n : Int) ≤ (1000 : Int)) && !decide (firstI p n (0) ≥ (0 : Int)))) [] (AV.bool (decide ((0 : Int) < d) && Nat.ble n (1000 : Nat) && List.all (List.range n) fun (i : Nat) => !p i)) [])))))
    (by kernel_rfl) ?_
  refine k_ff ?_
  refine k_ff ?_
  refine k_tt ?_
  refine k_scg (fun h3 => hc (by simp at h3; omega) (by simp at h3; omega)) ?_
  exact k_out (Ent.of_eq (congrArg _ (li_ok d n p)))

theorem within_c : ∀ (x : It) (d : Int), 0 ≤ d ∧ d ≤ 8 → x.enc.length ≤ 1099511627776 → Pure Tryz.prog gl0 172 [x.av, .int .i64 d] (.bool (x.okD d))
  | .int n, d, _, _ => within_int n d
  | .byt n f, d, _, _ => within_byt n f d
  | .li n c, d, hd, hn => by
    have h := within_lw n c d (fun i => !(c i).okD (d - 1)) (by have := It.encP_len n c n; rw [It.enc_li] at hn; omega) (fun h1 h2 => containsI_w n c d _ h2 (fun i hi => within1_w (c i) d _ ⟨h1, hd.2⟩ (within_c (c i) (d - 1) (by omega) (by have := It.enc_child (c := c) hi; omega))))
    simp only [Bool.not_not] at h
    exact h

theorem valid_c (x : It) (h : x.enc.length ≤ 1099511627776) : Pure Tryz.prog gl0 153 [.agg [.int .i64 x.kind, .int .i64 x.num, bys x.nb x.fb, .isl 4 x.nl x.row]] (.bool (x.okD 8)) := by
  have hw := within_c x 8 (by omega) h
  refine pure_sk (own := ow0) Tryz.func153 (by kernel_rfl) mixed (by kernel_rfl)
    (.sc (true) 172 ([AV.agg [AV.int IntKind.i64 (It.kind x), AV.int IntKind.i64 (It.num x), AV.isl (1) (It.nb x) fun (i x_1 : Nat) => AV.int IntKind.u8 (It.fb x i), AV.isl (4) (It.nl x) (It.row x)], AV.int IntKind.i64 (8 : Int)]) (AV.bool (It.okD x (8 : Int))) (.out (AV.bool (It.okD x (8 : Int))) [] (AV.bool (It.okD x (8 : Int))) []))
    (by kernel_rfl) ?_
  refine k_sc (hw) ?_
  exact k_out (Ent.refl _)

/-- The encoding of an item that is not too long. -/
theorem encode_c (x : It) (h : x.okD 8 = true) (hl : x.enc.length ≤ 16384) : Pure Tryz.prog gl0 127 [x.av] (.tup [il .u8 x.enc, .int .i64 0]) := by
  have hv := valid_c x (by omega)
  rw [h] at hv
  have hn := write_n x hl
  refine pure_sk (own := ow3) Tryz.func127 (by kernel_rfl) mixed (by kernel_rfl)
    (.sc (true) 153 ([AV.agg [AV.int IntKind.i64 (It.kind x), AV.int IntKind.i64 (It.num x), AV.isl (1) (It.nb x) fun (i x_1 : Nat) => AV.int IntKind.u8 (It.fb x i), AV.isl (4) (It.nl x) (It.row x)]]) (AV.bool true) (.ff (.gc 154 ([]) ([AV.nsl, AV.agg [AV.int IntKind.i64 (It.kind x), AV.int IntKind.i64 (It.num x), AV.isl (1) (It.nb x) fun (i x_1 : Nat) => AV.int IntKind.u8 (It.fb x i), AV.isl (4) (It.nl x) (It.row x)]]) (AV.osl (0 : Nat) (1 : Nat) (0 : Nat) (List.length (It.enc x))) ([ilO IntKind.u8 (It.enc x)]) (.br (decide ((↑(List.length (It.enc x)) : Int) > (16384 : Int))) (.out (AV.tup [AV.nsl, AV.int IntKind.i64 (5 : Int)]) [] (AV.tup [il IntKind.u8 (It.enc x), AV.int IntKind.i64 (0 : Int)]) []) (.out (AV.tup [AV.isl (1) (List.length (It.enc x)) fun (r k : Nat) => AV.int IntKind.u8 (List.getD (It.enc x) (r + 0) (0 : Int)), AV.int IntKind.i64 (0 : Int)]) [] (AV.tup [il IntKind.u8 (It.enc x), AV.int IntKind.i64 (0 : Int)]) [])))))
    (by kernel_rfl) ?_
  refine k_sc (hv) ?_
  refine k_ff ?_
  refine k_gc (hn) ?_
  refine k_br (fun h3 => ?_) (fun h3 => ?_)
  · have g3 := cnd_dec_t h3
    exact k_out ((by exfalso; omega))
  · have g3 := cnd_dec_f h3
    exact k_out (Ent.of_eq (by first | rfl | simp_all))

theorem ints_c (l : List Int) (hl : l.length ≤ 1000000) : Pure Tryz.prog gl0 142 [il .i64 l] (intsI l).av := by
  refine pure_sk (own := ow0) Tryz.func142 (by kernel_rfl) mixed (by kernel_rfl)
    (.loop ({ x : Nat // x ≤ List.length l }) (fun (x : { x : Nat // x ≤ List.length l }) => mkSt [2, 3, 7, 8, 9] [AV.own (0) (4) (0) (0) (4), AV.own (1) (4) (0) (0) (4), AV.isl (1) (List.length l) fun (i x : Nat) => AV.int IntKind.i64 (List.getD l i (0 : Int)), AV.int IntKind.i64 (↑(List.length l) : Int), AV.int IntKind.i64 (↑(Subtype.val x) : Int)] [some { es := 4, n := 1, mu := true, f := Rep.lst [[AV.int IntKind.i64 (0 : Int), AV.int IntKind.i64 (0 : Int), AV.nsl, AV.nsl]] }, some { es := (4 : Nat), n := (1 : Nat), mu := true, f := Rep.lst [[AV.int IntKind.i64 (3 : Int), AV.int IntKind.i64 (0 : Int), AV.nsl, AV.osl (2 : Nat) (4 : Nat) (0 : Nat) (Subtype.val x)]] }, some { es := (4 : Nat), n := Subtype.val x, mu := true, f := Rep.row fun (i : Nat) => It.cells (It.int (List.getD l i (0 : Int))) }]) (fun (x : { x : Nat // x ≤ List.length l }) => List.length l - Subtype.val x) (⟨(0 : Nat), Nat.zero_le (List.length l)⟩) ([2, 3, 7, 8, 9]) ([0, 16, 1082]) ([AV.own (0) (4) (0) (0) (4), AV.own (1) (4) (0) (0) (4), AV.isl (1) (List.length l) fun (i x : Nat) => AV.int IntKind.i64 (List.getD l i (0 : Int)), AV.int IntKind.i64 (↑(List.length l) : Int), AV.int IntKind.i64 (0 : Int)]) ([some { es := 4, n := 1, mu := true, f := Rep.lst [[AV.int IntKind.i64 (0 : Int), AV.int IntKind.i64 (0 : Int), AV.nsl, AV.nsl]] }, some { es := 4, n := 1, mu := true, f := Rep.lst [[AV.int IntKind.i64 (3 : Int), AV.int IntKind.i64 (0 : Int), AV.nsl, AV.nsl]] }, some { es := 4, n := 0, mu := true, f := Rep.lst [] }]) (fun x0 => (.br (decide ((↑x0.1 : Int) < (↑(List.length l) : Int))) (.req ((0 : Int) ≤ (↑x0.1 : Int) ∧ (↑x0.1 : Int) < (↑(List.length l) : Int)) (.req ((x0.1 + 1) * 64 ≤ 140737488355328) (.again (Again (0) (fun (x : { x : Nat // x ≤ List.length l }) => mkSt [2, 3, 7, 8, 9] [AV.own (0) (4) (0) (0) (4), AV.own (1) (4) (0) (0) (4), AV.isl (1) (List.length l) fun (i x : Nat) => AV.int IntKind.i64 (List.getD l i (0 : Int)), AV.int IntKind.i64 (↑(List.length l) : Int), AV.int IntKind.i64 (↑(Subtype.val x) : Int)] [some { es := 4, n := 1, mu := true, f := Rep.lst [[AV.int IntKind.i64 (0 : Int), AV.int IntKind.i64 (0 : Int), AV.nsl, AV.nsl]] }, some { es := (4 : Nat), n := (1 : Nat), mu := true, f := Rep.lst [[AV.int IntKind.i64 (3 : Int), AV.int IntKind.i64 (0 : Int), AV.nsl, AV.osl (2 : Nat) (4 : Nat) (0 : Nat) (Subtype.val x)]] }, some { es := (4 : Nat), n := Subtype.val x, mu := true, f := Rep.row fun (i : Nat) => It.cells (It.int (List.getD l i (0 : Int))) }]) (fun (x : { x : Nat // x ≤ List.length l }) => List.length l - Subtype.val x) x0) ([2, 3, 7, 8, 9]) ([0, 1, 75]) ([AV.own (0) (4) (0) (0) (4), AV.own (1) (4) (0) (0) (4), AV.isl (1) (List.length l) fun (i x : Nat) => AV.int IntKind.i64 (List.getD l i (0 : Int)), AV.int IntKind.i64 (↑(List.length l) : Int), AV.int IntKind.i64 (IntKind.wrap IntKind.i64 ((↑x0.1 : Int) + (1 : Int)))]) ([some { es := 4, n := 1, mu := true, f := Rep.lst [[AV.int IntKind.i64 (0 : Int), AV.int IntKind.i64 (0 : Int), AV.nsl, AV.nsl]] }, some { es := 4, n := 1, mu := true, f := Rep.lst [[AV.int IntKind.i64 (3 : Int), AV.int IntKind.i64 (0 : Int), AV.nsl, AV.osl (2) (4) (0) (x0.1 + 1)]] }, some { es := 4, n := x0.1 + 1, mu := true, f := Rep.cat x0.1 (Rep.row fun (i : Nat) => [AV.int IntKind.i64 (It.kind (It.int (List.getD l i (0 : Int)))), AV.int IntKind.i64 (It.num (It.int (List.getD l i (0 : Int)))), AV.isl (1) (0) fun (i_1 x : Nat) => AV.int IntKind.u8 (It.fb (It.int (List.getD l i (0 : Int))) i_1), AV.isl (4) (0) (It.row (It.int (List.getD l i (0 : Int))))]) (Rep.lst [[AV.int IntKind.i64 (1 : Int), AV.int IntKind.i64 (List.getD l (Int.toNat (↑(Subtype.val x0) : Int)) (0 : Int)), AV.nsl, AV.nsl]]) }])))) (.out (AV.agg [AV.int IntKind.i64 (3 : Int), AV.int IntKind.i64 (0 : Int), AV.nsl, AV.isl (4) x0.1 fun (r k : Nat) => atL [AV.int IntKind.i64 (It.kind (It.int (List.getD l (r + 0) (0 : Int)))), AV.int IntKind.i64 (It.num (It.int (List.getD l (r + 0) (0 : Int)))), AV.isl (1) (0) fun (i x : Nat) => AV.int IntKind.u8 (It.fb (It.int (List.getD l (r + 0) (0 : Int))) i), AV.isl (4) (0) (It.row (It.int (List.getD l (r + 0) (0 : Int))))] k]) [] (It.av (intsI l)) []))))
    (by kernel_rfl) ?_
  --LOOPINFO kept [2, 3, 7, 8] changed [9] objects [0, 16, 1082]
  --LOOPINFO   obj 0: some { es := 4, n := 1, mu := true, f := Rep.lst [[AV.int IntKind.i64 (0 : Int), AV.int IntKind.i64 (0 : Int), AV.nsl, AV.nsl]] }
  refine k_loop (fun _ hs => hs.le (by repeat' (first | exact trivial | (first | exact Ent.refl _ | exact inc_ent (by omega) | exact Ent.nil rfl | exact Ent.of_eq (congrArg (AV.osl _ _ _) (by first | omega | (dsimp only; omega))) | exact Ent.of_eq (congrArg (AV.int _) (by first | omega | (dsimp only; omega)))) | refine And.intro ?_ ?_)) (by repeat' (first | exact trivial | (first | exact ObEnt.refl _ | exact ObEnt.junk | exact ObEnt.zero | exact ObEnt.push rfl rfl | exact ObEnt.pushRow rfl | exact ObEnt.len (by omega) | exact ObEnt.row (by repeat' (first | exact trivial | (first | exact Ent.refl _ | exact inc_ent (by omega) | exact Ent.nil rfl | exact Ent.of_eq (congrArg (AV.osl _ _ _) (by first | omega | (dsimp only; omega))) | exact Ent.of_eq (congrArg (AV.int _) (by first | omega | (dsimp only; omega)))) | refine And.intro ?_ ?_))) | refine And.intro ?_ ?_))) (fun x0 => ?_)
  try (have q0 := x0.2; dsimp only at q0)
  refine k_br (fun h1 => ?_) (fun h1 => ?_)
  · have g1 := cnd_dec_t h1
    refine k_req (by first | omega | (simp only [Int.toNat_natCast]; omega)) ?_
    refine k_req (by first | omega | (simp only [Int.toNat_natCast]; omega)) ?_
    exact k_again (⟨x0.1 + 1, by omega⟩) (fun _ hs => hs.le (by repeat' (first | exact trivial | (first | exact Ent.refl _ | exact inc_ent (by omega) | exact Ent.nil rfl | exact Ent.of_eq (congrArg (AV.osl _ _ _) (by first | omega | (dsimp only; omega))) | exact Ent.of_eq (congrArg (AV.int _) (by first | omega | (dsimp only; omega)))) | refine And.intro ?_ ?_)) (⟨by first | exact ObEnt.refl _ | exact ObEnt.junk | exact ObEnt.zero | exact ObEnt.push rfl rfl | exact ObEnt.pushRow rfl | exact ObEnt.len (by omega) | exact ObEnt.row (by repeat' (first | exact trivial | (first | exact Ent.refl _ | exact inc_ent (by omega) | exact Ent.nil rfl | exact Ent.of_eq (congrArg (AV.osl _ _ _) (by first | omega | (dsimp only; omega))) | exact Ent.of_eq (congrArg (AV.int _) (by first | omega | (dsimp only; omega)))) | refine And.intro ?_ ?_)), by first | exact ObEnt.refl _ | exact ObEnt.junk | exact ObEnt.zero | exact ObEnt.push rfl rfl | exact ObEnt.pushRow rfl | exact ObEnt.len (by omega) | exact ObEnt.row (by repeat' (first | exact trivial | (first | exact Ent.refl _ | exact inc_ent (by omega) | exact Ent.nil rfl | exact Ent.of_eq (congrArg (AV.osl _ _ _) (by first | omega | (dsimp only; omega))) | exact Ent.of_eq (congrArg (AV.int _) (by first | omega | (dsimp only; omega)))) | refine And.intro ?_ ?_)), int_push rfl rfl, trivial⟩)) (by first | omega | (dsimp only; omega) | (simp; omega))
  · have g1 := cnd_dec_f h1
    exact k_out (ints_out (by omega))

theorem rints_c (l : List Int) (hl : l.length ≤ 1000000) : Pure Tryz.prog gl0 100 [il .i64 l] (intsI l).av := by
  refine pure_sk (own := ow0) Tryz.func100 (by kernel_rfl) mixed (by kernel_rfl)
    (.loop ({ x : Nat // x ≤ List.length l }) (fun (x : { x : Nat // x ≤ List.length l }) => mkSt [0, 2, 3, 4] [AV.isl (1) (List.length l) fun (i x : Nat) => AV.int IntKind.i64 (List.getD l i (0 : Int)), AV.own (0) (4) (0) (0) (4), AV.own (1) (4) (0) (0) (4), AV.int IntKind.i64 (↑(Subtype.val x) : Int)] [some { es := 4, n := 1, mu := true, f := Rep.lst [[AV.int IntKind.i64 (0 : Int), AV.int IntKind.i64 (0 : Int), AV.nsl, AV.nsl]] }, some { es := (4 : Nat), n := (1 : Nat), mu := true, f := Rep.lst [[AV.int IntKind.i64 (3 : Int), AV.int IntKind.i64 (0 : Int), AV.nsl, AV.osl (2 : Nat) (4 : Nat) (0 : Nat) (Subtype.val x)]] }, some { es := (4 : Nat), n := Subtype.val x, mu := true, f := Rep.row fun (i : Nat) => It.cells (It.int (List.getD l i (0 : Int))) }]) (fun (x : { x : Nat // x ≤ List.length l }) => List.length l - Subtype.val x) (⟨(0 : Nat), Nat.zero_le (List.length l)⟩) ([0, 2, 3, 4]) ([0, 16, 1066]) ([AV.isl (1) (List.length l) fun (i x : Nat) => AV.int IntKind.i64 (List.getD l i (0 : Int)), AV.own (0) (4) (0) (0) (4), AV.own (1) (4) (0) (0) (4), AV.int IntKind.i64 (0 : Int)]) ([some { es := 4, n := 1, mu := true, f := Rep.lst [[AV.int IntKind.i64 (0 : Int), AV.int IntKind.i64 (0 : Int), AV.nsl, AV.nsl]] }, some { es := 4, n := 1, mu := true, f := Rep.lst [[AV.int IntKind.i64 (3 : Int), AV.int IntKind.i64 (0 : Int), AV.nsl, AV.nsl]] }, some { es := 4, n := 0, mu := true, f := Rep.lst [] }]) (fun x0 => (.br (decide ((↑x0.1 : Int) < (↑(List.length l) : Int))) (.req ((0 : Int) ≤ (↑x0.1 : Int) ∧ (↑x0.1 : Int) < (↑(List.length l) : Int)) (.req ((x0.1 + 1) * 64 ≤ 140737488355328) (.again (Again (0) (fun (x : { x : Nat // x ≤ List.length l }) => mkSt [0, 2, 3, 4] [AV.isl (1) (List.length l) fun (i x : Nat) => AV.int IntKind.i64 (List.getD l i (0 : Int)), AV.own (0) (4) (0) (0) (4), AV.own (1) (4) (0) (0) (4), AV.int IntKind.i64 (↑(Subtype.val x) : Int)] [some { es := 4, n := 1, mu := true, f := Rep.lst [[AV.int IntKind.i64 (0 : Int), AV.int IntKind.i64 (0 : Int), AV.nsl, AV.nsl]] }, some { es := (4 : Nat), n := (1 : Nat), mu := true, f := Rep.lst [[AV.int IntKind.i64 (3 : Int), AV.int IntKind.i64 (0 : Int), AV.nsl, AV.osl (2 : Nat) (4 : Nat) (0 : Nat) (Subtype.val x)]] }, some { es := (4 : Nat), n := Subtype.val x, mu := true, f := Rep.row fun (i : Nat) => It.cells (It.int (List.getD l i (0 : Int))) }]) (fun (x : { x : Nat // x ≤ List.length l }) => List.length l - Subtype.val x) x0) ([0, 2, 3, 4]) ([0, 1, 99]) ([AV.isl (1) (List.length l) fun (i x : Nat) => AV.int IntKind.i64 (List.getD l i (0 : Int)), AV.own (0) (4) (0) (0) (4), AV.own (1) (4) (0) (0) (4), AV.int IntKind.i64 (IntKind.wrap IntKind.i64 ((↑x0.1 : Int) + (1 : Int)))]) ([some { es := 4, n := 1, mu := true, f := Rep.lst [[AV.int IntKind.i64 (0 : Int), AV.int IntKind.i64 (0 : Int), AV.nsl, AV.nsl]] }, some { es := 4, n := 1, mu := true, f := Rep.lst [[AV.int IntKind.i64 (3 : Int), AV.int IntKind.i64 (0 : Int), AV.nsl, AV.osl (2) (4) (0) (x0.1 + 1)]] }, some { es := 4, n := x0.1 + 1, mu := true, f := Rep.cat x0.1 (Rep.row fun (i : Nat) => [AV.int IntKind.i64 (It.kind (It.int (List.getD l i (0 : Int)))), AV.int IntKind.i64 (It.num (It.int (List.getD l i (0 : Int)))), AV.isl (1) (0) fun (i_1 x : Nat) => AV.int IntKind.u8 (It.fb (It.int (List.getD l i (0 : Int))) i_1), AV.isl (4) (0) (It.row (It.int (List.getD l i (0 : Int))))]) (Rep.lst [[AV.int IntKind.i64 (1 : Int), AV.int IntKind.i64 (List.getD l (Int.toNat (↑(Subtype.val x0) : Int)) (0 : Int)), AV.nsl, AV.nsl]]) }])))) (.out (AV.agg [AV.int IntKind.i64 (3 : Int), AV.int IntKind.i64 (0 : Int), AV.nsl, AV.isl (4) x0.1 fun (r k : Nat) => atL [AV.int IntKind.i64 (It.kind (It.int (List.getD l (r + 0) (0 : Int)))), AV.int IntKind.i64 (It.num (It.int (List.getD l (r + 0) (0 : Int)))), AV.isl (1) (0) fun (i x : Nat) => AV.int IntKind.u8 (It.fb (It.int (List.getD l (r + 0) (0 : Int))) i), AV.isl (4) (0) (It.row (It.int (List.getD l (r + 0) (0 : Int))))] k]) [] (It.av (intsI l)) []))))
    (by kernel_rfl) ?_
  --LOOPINFO kept [0, 2, 3] changed [4] objects [0, 16, 1066]
  --LOOPINFO   obj 0: some { es := 4, n := 1, mu := true, f := Rep.lst [[AV.int IntKind.i64 (0 : Int), AV.int IntKind.i64 (0 : Int), AV.nsl, AV.nsl]] }
  refine k_loop (fun _ hs => hs.le (by repeat' (first | exact trivial | (first | exact Ent.refl _ | exact inc_ent (by omega) | exact Ent.nil rfl | exact Ent.of_eq (congrArg (AV.osl _ _ _) (by first | omega | (dsimp only; omega))) | exact Ent.of_eq (congrArg (AV.int _) (by first | omega | (dsimp only; omega)))) | refine And.intro ?_ ?_)) (by repeat' (first | exact trivial | (first | exact ObEnt.refl _ | exact ObEnt.junk | exact ObEnt.zero | exact ObEnt.push rfl rfl | exact ObEnt.pushRow rfl | exact ObEnt.len (by omega) | exact ObEnt.row (by repeat' (first | exact trivial | (first | exact Ent.refl _ | exact inc_ent (by omega) | exact Ent.nil rfl | exact Ent.of_eq (congrArg (AV.osl _ _ _) (by first | omega | (dsimp only; omega))) | exact Ent.of_eq (congrArg (AV.int _) (by first | omega | (dsimp only; omega)))) | refine And.intro ?_ ?_))) | refine And.intro ?_ ?_))) (fun x0 => ?_)
  try (have q0 := x0.2; dsimp only at q0)
  refine k_br (fun h1 => ?_) (fun h1 => ?_)
  · have g1 := cnd_dec_t h1
    refine k_req (by first | omega | (simp only [Int.toNat_natCast]; omega)) ?_
    refine k_req (by first | omega | (simp only [Int.toNat_natCast]; omega)) ?_
    exact k_again (⟨x0.1 + 1, by omega⟩) (fun _ hs => hs.le (by repeat' (first | exact trivial | (first | exact Ent.refl _ | exact inc_ent (by omega) | exact Ent.nil rfl | exact Ent.of_eq (congrArg (AV.osl _ _ _) (by first | omega | (dsimp only; omega))) | exact Ent.of_eq (congrArg (AV.int _) (by first | omega | (dsimp only; omega)))) | refine And.intro ?_ ?_)) (⟨by first | exact ObEnt.refl _ | exact ObEnt.junk | exact ObEnt.zero | exact ObEnt.push rfl rfl | exact ObEnt.pushRow rfl | exact ObEnt.len (by omega) | exact ObEnt.row (by repeat' (first | exact trivial | (first | exact Ent.refl _ | exact inc_ent (by omega) | exact Ent.nil rfl | exact Ent.of_eq (congrArg (AV.osl _ _ _) (by first | omega | (dsimp only; omega))) | exact Ent.of_eq (congrArg (AV.int _) (by first | omega | (dsimp only; omega)))) | refine And.intro ?_ ?_)), by first | exact ObEnt.refl _ | exact ObEnt.junk | exact ObEnt.zero | exact ObEnt.push rfl rfl | exact ObEnt.pushRow rfl | exact ObEnt.len (by omega) | exact ObEnt.row (by repeat' (first | exact trivial | (first | exact Ent.refl _ | exact inc_ent (by omega) | exact Ent.nil rfl | exact Ent.of_eq (congrArg (AV.osl _ _ _) (by first | omega | (dsimp only; omega))) | exact Ent.of_eq (congrArg (AV.int _) (by first | omega | (dsimp only; omega)))) | refine And.intro ?_ ?_)), int_push rfl rfl, trivial⟩)) (by first | omega | (dsimp only; omega) | (simp; omega))
  · have g1 := cnd_dec_f h1
    exact k_out (ints_out (by omega))

theorem ints_2 (a b : Int) : Pure Tryz.prog gl0 142 [.isl 1 2 fun r k => atL (List.getD [[.int .i64 a], [.int .i64 b]] r []) k] (intsI [a, b]).av :=
  (ints_c [a, b] (by simp)).via ⟨il_rows rfl rfl, trivial⟩
theorem rints_2 (a b : Int) : Pure Tryz.prog gl0 100 [.isl 1 2 fun r k => atL (List.getD [[.int .i64 a], [.int .i64 b]] r []) k] (intsI [a, b]).av :=
  (rints_c [a, b] (by simp)).via ⟨il_rows rfl rfl, trivial⟩

theorem rbytes31_c (f : Nat → Int) : Pure Tryz.prog gl0 96 [.agg (u8c f)] (It.byt 32 f).av := by
  refine pure_sk (own := ow0) Tryz.func96 (by kernel_rfl) mixed (by kernel_rfl)
    (.loop ({ x : Nat // x ≤ (32 : Nat) }) (fun (x : { x : Nat // x ≤ (32 : Nat) }) => mkSt [1, 2, 3, 4] [AV.own (0) (32) (0) (0) (32), AV.own (1) (4) (0) (0) (4), AV.own (2) (4) (0) (0) (4), AV.int IntKind.i64 (↑(Subtype.val x) : Int)] [some { es := 32, n := 1, mu := true, f := Rep.lst [u8c f] }, some { es := 4, n := 1, mu := true, f := Rep.lst [[AV.int IntKind.i64 (0 : Int), AV.int IntKind.i64 (0 : Int), AV.nsl, AV.nsl]] }, some { es := (4 : Nat), n := (1 : Nat), mu := true, f := Rep.lst [[AV.int IntKind.i64 (2 : Int), AV.int IntKind.i64 (0 : Int), AV.osl (3 : Nat) (1 : Nat) (0 : Nat) (Subtype.val x), AV.nsl]] }, some { es := (1 : Nat), n := Subtype.val x, mu := true, f := Rep.fn fun (i x : Nat) => AV.int IntKind.u8 (f i) }]) (fun (x : { x : Nat // x ≤ (32 : Nat) }) => (32 : Nat) - Subtype.val x) (⟨(0 : Nat), Nat.zero_le (32 : Nat)⟩) ([1, 2, 3, 4]) ([0, 8, 24, 307]) ([AV.own (0) (32) (0) (0) (32), AV.own (1) (4) (0) (0) (4), AV.own (2) (4) (0) (0) (4), AV.int IntKind.i64 (0 : Int)]) ([some { es := 32, n := 1, mu := true, f := Rep.lst [u8c f] }, some { es := 4, n := 1, mu := true, f := Rep.lst [[AV.int IntKind.i64 (0 : Int), AV.int IntKind.i64 (0 : Int), AV.nsl, AV.nsl]] }, some { es := 4, n := 1, mu := true, f := Rep.lst [[AV.int IntKind.i64 (2 : Int), AV.int IntKind.i64 (0 : Int), AV.nsl, AV.nsl]] }, some { es := 1, n := 0, mu := true, f := Rep.lst [] }]) (fun x0 => (.br (decide ((↑x0.1 : Int) < (32 : Int))) (.req ((0 : Int) ≤ (↑x0.1 : Int) ∧ (↑x0.1 : Int) < (↑(32) : Int)) (.req ((x0.1 + 1) * 1 ≤ 140737488355328) (.again (Again (0) (fun (x : { x : Nat // x ≤ (32 : Nat) }) => mkSt [1, 2, 3, 4] [AV.own (0) (32) (0) (0) (32), AV.own (1) (4) (0) (0) (4), AV.own (2) (4) (0) (0) (4), AV.int IntKind.i64 (↑(Subtype.val x) : Int)] [some { es := 32, n := 1, mu := true, f := Rep.lst [u8c f] }, some { es := 4, n := 1, mu := true, f := Rep.lst [[AV.int IntKind.i64 (0 : Int), AV.int IntKind.i64 (0 : Int), AV.nsl, AV.nsl]] }, some { es := (4 : Nat), n := (1 : Nat), mu := true, f := Rep.lst [[AV.int IntKind.i64 (2 : Int), AV.int IntKind.i64 (0 : Int), AV.osl (3 : Nat) (1 : Nat) (0 : Nat) (Subtype.val x), AV.nsl]] }, some { es := (1 : Nat), n := Subtype.val x, mu := true, f := Rep.fn fun (i x : Nat) => AV.int IntKind.u8 (f i) }]) (fun (x : { x : Nat // x ≤ (32 : Nat) }) => (32 : Nat) - Subtype.val x) x0) ([1, 2, 3, 4]) ([0, 1, 2, 68]) ([AV.own (0) (32) (0) (0) (32), AV.own (1) (4) (0) (0) (4), AV.own (2) (4) (0) (0) (4), AV.int IntKind.i64 (IntKind.wrap IntKind.i64 ((↑x0.1 : Int) + (1 : Int)))]) ([some { es := 32, n := 1, mu := true, f := Rep.lst [u8c f] }, some { es := 4, n := 1, mu := true, f := Rep.lst [[AV.int IntKind.i64 (0 : Int), AV.int IntKind.i64 (0 : Int), AV.nsl, AV.nsl]] }, some { es := 4, n := 1, mu := true, f := Rep.lst [[AV.int IntKind.i64 (2 : Int), AV.int IntKind.i64 (0 : Int), AV.osl (3) (1) (0) (x0.1 + 1), AV.nsl]] }, some { es := 1, n := x0.1 + 1, mu := true, f := Rep.fn fun (i j : Nat) => AV.int IntKind.u8 (bif Nat.blt i x0.1 then f i else intOfAV (atL [AV.int IntKind.u8 (intOfAV (Rep.at (Ob.f (Ob.seen { es := 32, n := 1, mu := true, f := Rep.lst [u8c f] })) (0) (0 + Int.toNat (↑(Subtype.val x0) : Int))))] j)) }])))) (.out (AV.agg [AV.int IntKind.i64 (2 : Int), AV.int IntKind.i64 (0 : Int), AV.isl (1) x0.1 fun (r k : Nat) => AV.int IntKind.u8 (f (r + 0)), AV.nsl]) [] (It.av (It.byt (32 : Nat) f)) []))))
    (by kernel_rfl) ?_
  --LOOPINFO kept [1, 2, 3] changed [4] objects [0, 8, 24, 307]
  --LOOPINFO   obj 0: some { es := 32, n := 1, mu := true, f := Rep.lst [u8c f] }
  --LOOPINFO   obj 1: some { es := 4, n := 1, mu := true, f := Rep.lst [[AV.int IntKind.i64 (0 : Int), AV.int IntKind.i64 (0 : Int), AV.nsl, AV.nsl]] }
  refine k_loop (fun _ hs => hs.le (by repeat' (first | exact trivial | (first | exact Ent.refl _ | exact inc_ent (by omega) | exact Ent.nil rfl | exact Ent.of_eq (congrArg (AV.osl _ _ _) (by first | omega | (dsimp only; omega))) | exact Ent.of_eq (congrArg (AV.int _) (by first | omega | (dsimp only; omega)))) | refine And.intro ?_ ?_)) (by repeat' (first | exact trivial | (first | exact ObEnt.refl _ | exact ObEnt.junk | exact ObEnt.zero | exact ObEnt.push rfl rfl | exact ObEnt.pushRow rfl | exact ObEnt.len (by omega) | exact ObEnt.row (by repeat' (first | exact trivial | (first | exact Ent.refl _ | exact inc_ent (by omega) | exact Ent.nil rfl | exact Ent.of_eq (congrArg (AV.osl _ _ _) (by first | omega | (dsimp only; omega))) | exact Ent.of_eq (congrArg (AV.int _) (by first | omega | (dsimp only; omega)))) | refine And.intro ?_ ?_))) | refine And.intro ?_ ?_))) (fun x0 => ?_)
  try (have q0 := x0.2; dsimp only at q0)
  refine k_br (fun h1 => ?_) (fun h1 => ?_)
  · have g1 := cnd_dec_t h1
    refine k_req (by first | omega | (simp only [Int.toNat_natCast]; omega)) ?_
    refine k_req (by first | omega | (simp only [Int.toNat_natCast]; omega)) ?_
    exact k_again (⟨x0.1 + 1, by omega⟩) (fun _ hs => hs.le (by repeat' (first | exact trivial | (first | exact Ent.refl _ | exact inc_ent (by omega) | exact Ent.nil rfl | exact Ent.of_eq (congrArg (AV.osl _ _ _) (by first | omega | (dsimp only; omega))) | exact Ent.of_eq (congrArg (AV.int _) (by first | omega | (dsimp only; omega)))) | refine And.intro ?_ ?_)) (⟨by first | exact ObEnt.refl _ | exact ObEnt.junk | exact ObEnt.zero | exact ObEnt.push rfl rfl | exact ObEnt.pushRow rfl | exact ObEnt.len (by omega) | exact ObEnt.row (by repeat' (first | exact trivial | (first | exact Ent.refl _ | exact inc_ent (by omega) | exact Ent.nil rfl | exact Ent.of_eq (congrArg (AV.osl _ _ _) (by first | omega | (dsimp only; omega))) | exact Ent.of_eq (congrArg (AV.int _) (by first | omega | (dsimp only; omega)))) | refine And.intro ?_ ?_)), by first | exact ObEnt.refl _ | exact ObEnt.junk | exact ObEnt.zero | exact ObEnt.push rfl rfl | exact ObEnt.pushRow rfl | exact ObEnt.len (by omega) | exact ObEnt.row (by repeat' (first | exact trivial | (first | exact Ent.refl _ | exact inc_ent (by omega) | exact Ent.nil rfl | exact Ent.of_eq (congrArg (AV.osl _ _ _) (by first | omega | (dsimp only; omega))) | exact Ent.of_eq (congrArg (AV.int _) (by first | omega | (dsimp only; omega)))) | refine And.intro ?_ ?_)), by first | exact ObEnt.refl _ | exact ObEnt.junk | exact ObEnt.zero | exact ObEnt.push rfl rfl | exact ObEnt.pushRow rfl | exact ObEnt.len (by omega) | exact ObEnt.row (by repeat' (first | exact trivial | (first | exact Ent.refl _ | exact inc_ent (by omega) | exact Ent.nil rfl | exact Ent.of_eq (congrArg (AV.osl _ _ _) (by first | omega | (dsimp only; omega))) | exact Ent.of_eq (congrArg (AV.int _) (by first | omega | (dsimp only; omega)))) | refine And.intro ?_ ?_)), ObEnt.pushF (F := f) rfl (by show intOfAV (atL (u8c f) (0 + x0.1)) = f x0.1; rw [Nat.zero_add, u8c_at (by omega)]), trivial⟩)) (by first | omega | (dsimp only; omega) | (simp; omega))
  · have g1 := cnd_dec_f h1
    exact k_out (byts_out (by omega))

end Go.Proofs.YtmhipmiacghgeaaGreatDoor

namespace Go.Proofs.YtmhipmiacghgeaaGreatDoor
open Go Go.Am Go.Sp
set_option maxRecDepth 100000

theorem ints_4 (a0 a1 a2 a3 : Int) : Pure Tryz.prog gl0 142 [.isl 1 4 fun r k => atL (List.getD [[.int .i64 a0], [.int .i64 a1], [.int .i64 a2], [.int .i64 a3]] r []) k] (intsI [a0, a1, a2, a3]).av := (ints_c [a0, a1, a2, a3] (by simp)).via ⟨il_rows rfl rfl, trivial⟩
theorem ints_5 (a0 a1 a2 a3 a4 : Int) : Pure Tryz.prog gl0 142 [.isl 1 5 fun r k => atL (List.getD [[.int .i64 a0], [.int .i64 a1], [.int .i64 a2], [.int .i64 a3], [.int .i64 a4]] r []) k] (intsI [a0, a1, a2, a3, a4]).av := (ints_c [a0, a1, a2, a3, a4] (by simp)).via ⟨il_rows rfl rfl, trivial⟩
theorem rints_4 (a0 a1 a2 a3 : Int) : Pure Tryz.prog gl0 100 [.isl 1 4 fun r k => atL (List.getD [[.int .i64 a0], [.int .i64 a1], [.int .i64 a2], [.int .i64 a3]] r []) k] (intsI [a0, a1, a2, a3]).av := (rints_c [a0, a1, a2, a3] (by simp)).via ⟨il_rows rfl rfl, trivial⟩
theorem rints_5 (a0 a1 a2 a3 a4 : Int) : Pure Tryz.prog gl0 100 [.isl 1 5 fun r k => atL (List.getD [[.int .i64 a0], [.int .i64 a1], [.int .i64 a2], [.int .i64 a3], [.int .i64 a4]] r []) k] (intsI [a0, a1, a2, a3, a4]).av := (rints_c [a0, a1, a2, a3, a4] (by simp)).via ⟨il_rows rfl rfl, trivial⟩

theorem cloneU_n : Pure Tryz.prog gl0 126 [.nsl] .nsl := by
  refine pure_sk (own := ow0) Tryz.func126 (by kernel_rfl) mixed (by kernel_rfl)
    (.tt (.out (AV.nsl) [] (AV.nsl) []))
    (by kernel_rfl) ?_
  refine k_tt ?_
  exact k_out (Ent.refl _)
theorem cloneU_s (f : Nat → Int) (n : Nat) (hn : n ≤ 1099511627776) : Pure Tryz.prog gl0 126 [.nn (bys n f)] (bys n f) := by
  refine pure_sk (own := ow0) Tryz.func126 (by kernel_rfl) mixed (by kernel_rfl)
    (.ff (.req ((0 + n) * 1 ≤ 140737488355328) (.out (AV.isl (1) (0 + n) fun (r k : Nat) => AV.int IntKind.u8 (f (r + 0))) [] (bys n f) [])))
    (by kernel_rfl) ?_
  refine k_ff ?_
  refine k_req (by first | omega | (simp only [Int.toNat_natCast]; omega)) ?_
  exact k_out (bys_eq (by omega) (fun i _ => rfl))
theorem cloneU_c (f : Nat → Int) (n : Nat) (hn : n ≤ 1099511627776) : Pure Tryz.prog gl0 126 [bys n f] (bys n f) :=
  Gives.nilSplit [] [] 1 n _ (fun h => by subst h; exact cloneU_n.ent Ent.nsl) (cloneU_s f n hn)

theorem bytes_c (f : Nat → Int) : Pure Tryz.prog gl0 141 [.agg (u8c f)] (It.byt 32 f).av := by
  refine pure_sk (own := ow0) Tryz.func141 (by kernel_rfl) mixed (by kernel_rfl)
    (.dc (true) 126 ([AV.isl (1) (32) fun (r x : Nat) => AV.int IntKind.u8 (intOfAV (atL (u8c f) (0 + (0 + r))))]) (bys (32) fun (i : Nat) => intOfAV (atL (u8c f) (0 + (0 + i)))) (.out (AV.agg [AV.int IntKind.i64 (2 : Int), AV.int IntKind.i64 (0 : Int), AV.isl (1) (32) fun (i x : Nat) => AV.int IntKind.u8 (intOfAV (atL (u8c f) (0 + (0 + i)))), AV.nsl]) [] (It.av (It.byt (32 : Nat) f)) []))
    (by kernel_rfl) ?_
  refine k_dc (cloneU_c (fun (i : Nat) => intOfAV (atL (u8c f) (0 + (0 + i)))) (32) (by first | assumption | omega)) ?_
  exact k_out (Ent.agg ⟨Ent.refl _, Ent.refl _, bys_eq rfl (fun i hi => by rw [Nat.zero_add, Nat.zero_add]; exact u8c_at hi), Ent.nsl, trivial⟩)

theorem list_c (n : Nat) (f : Nat → Nat → AV) : Pure Tryz.prog gl0 140 [.isl 4 n f] (.agg [.int .i64 3, .int .i64 0, .nsl, .isl 4 n f]) := by
  refine pure_sk (own := ow0) Tryz.func140 (by kernel_rfl) mixed (by kernel_rfl)
    (.out (AV.agg [AV.int IntKind.i64 (3 : Int), AV.int IntKind.i64 (0 : Int), AV.nsl, AV.isl (4) n f]) [] (AV.agg [AV.int IntKind.i64 (3 : Int), AV.int IntKind.i64 (0 : Int), AV.nsl, AV.isl (4 : Nat) n f]) [])
    (by kernel_rfl) ?_
  exact k_out (Ent.refl _)

def ow4 : FuncId → Option (List Bool) := fun f => bif Nat.beq f 157 then some [true, false] else bif Nat.beq f 158 then some [true, false] else none

theorem wints_5 (a0 a1 a2 a3 a4 : Int) : Gives Tryz.prog gl0 157 [⟨1, 1, true, .lst [[.nsl]]⟩] [.own 0 1 0 0 1, .isl 1 5 fun r k => atL (List.getD [[.int .i64 a0], [.int .i64 a1], [.int .i64 a2], [.int .i64 a3], [.int .i64 a4]] r []) k] .junk [some ⟨1, 1, true, .lst [[.osl 1 4 0 1]]⟩, some ⟨4, 1, true, .lst [(intsI [a0, a1, a2, a3, a4]).cells]⟩] := by
  refine gives_sk (own := ow0) (hand := true) Tryz.func157 (by kernel_rfl) mixed (by kernel_rfl)
    (.dc (true) 142 ([AV.isl (1) (5) fun (r k : Nat) => atL (List.getD [[AV.int IntKind.i64 a0], [AV.int IntKind.i64 a1], [AV.int IntKind.i64 a2], [AV.int IntKind.i64 a3], [AV.int IntKind.i64 a4]] r []) k]) (It.av (intsI [a0, a1, a2, a3, a4])) (.req (64 ≤ 140737488355328) (.req ((0 : Int) ≤ (0 : Int) ∧ (0 : Int) < (↑(1) : Int)) (.out (AV.tup []) ([some { es := 1, n := 1, mu := true, f := Rep.lst [[AV.osl (1) (4) (0) (1)]] }, some { es := 4, n := 1, mu := true, f := Rep.lst [[AV.int IntKind.i64 (It.kind (intsI [a0, a1, a2, a3, a4])), AV.int IntKind.i64 (It.num (intsI [a0, a1, a2, a3, a4])), AV.isl (1) (0) fun (i x : Nat) => AV.int IntKind.u8 (It.fb (intsI [a0, a1, a2, a3, a4]) i), AV.isl (4) (5) (It.row (intsI [a0, a1, a2, a3, a4]))]] }]) (AV.junk) ([some { es := (1 : Nat), n := (1 : Nat), mu := true, f := Rep.lst [[AV.osl (1 : Nat) (4 : Nat) (0 : Nat) (1 : Nat)]] }, some { es := (4 : Nat), n := (1 : Nat), mu := true, f := Rep.lst [It.cells (intsI [a0, a1, a2, a3, a4])] }])))))
    (by kernel_rfl) ?_
  refine k_dc (ints_5 (a0) (a1) (a2) (a3) (a4)) ?_
  refine k_req (by first | omega | (simp only [Int.toNat_natCast]; omega)) ?_
  refine k_req (by first | omega | (simp only [Int.toNat_natCast]; omega)) ?_
  exact k_outg (Ent.junk _) (by repeat' (first | exact trivial | (first | exact ObEnt.refl _ | exact ObEnt.junk | exact ObEnt.zero | exact ObEnt.push rfl rfl | exact ObEnt.pushRow rfl | exact ObEnt.len (by omega) | exact ObEnt.row (by repeat' (first | exact trivial | (first | exact Ent.refl _ | exact inc_ent (by omega) | exact Ent.nil rfl | exact Ent.of_eq (congrArg (AV.osl _ _ _) (by first | omega | (dsimp only; omega))) | exact Ent.of_eq (congrArg (AV.int _) (by first | omega | (dsimp only; omega)))) | refine And.intro ?_ ?_))) | refine And.intro ?_ ?_))

theorem wbytes_1 (x : It) (f : Nat → Int) : Gives Tryz.prog gl0 158 [⟨1, 1, true, .lst [[.osl 1 4 0 1]]⟩, ⟨4, 1, true, .lst [x.cells]⟩] [.own 0 1 0 0 1, bys 32 f] .junk [some ⟨1, 1, true, .lst [[.osl 2 4 0 2]]⟩, none, some ⟨4, 2, true, .lst [x.cells, (It.byt 32 f).cells]⟩] := by
  refine gives_sk (own := ow0) (hand := true) Tryz.func158 (by kernel_rfl) mixed (by kernel_rfl)
    (.dc (true) 126 ([AV.isl (1) (32) fun (i x : Nat) => AV.int IntKind.u8 (f i)]) (bys (32) f) (.req (128 ≤ 140737488355328) (.req ((0 : Int) ≤ (↑(1) : Int) ∧ (↑(1) : Int) < (↑(2) : Int)) (.out (AV.tup []) ([some { es := 1, n := 1, mu := true, f := Rep.lst [[AV.osl (2) (4) (0) (2)]] }, none, some { es := 4, n := 2, mu := true, f := Rep.lst [[AV.int IntKind.i64 (It.kind x), AV.int IntKind.i64 (It.num x), AV.isl (1) (It.nb x) fun (i x_1 : Nat) => AV.int IntKind.u8 (It.fb x i), AV.isl (4) (It.nl x) (It.row x)], [AV.int IntKind.i64 (2 : Int), AV.int IntKind.i64 (0 : Int), AV.isl (1) (32) fun (i x : Nat) => AV.int IntKind.u8 (f i), AV.nsl]] }]) (AV.junk) ([some { es := (1 : Nat), n := (1 : Nat), mu := true, f := Rep.lst [[AV.osl (2 : Nat) (4 : Nat) (0 : Nat) (2 : Nat)]] }, none, some { es := (4 : Nat), n := (2 : Nat), mu := true, f := Rep.lst [It.cells x, It.cells (It.byt (32 : Nat) f)] }])))))
    (by kernel_rfl) ?_
  refine k_dc (cloneU_c (f) (32) (by first | assumption | omega)) ?_
  refine k_req (by first | omega | (simp only [Int.toNat_natCast]; omega)) ?_
  refine k_req (by first | omega | (simp only [Int.toNat_natCast]; omega)) ?_
  exact k_outg (Ent.junk _) (⟨ObEnt.refl _, row2_ob (EntL.refl _) (byt_row 32 f), trivial⟩)

theorem wints_2 (x y : It) (a0 a1 a2 a3 : Int) : Gives Tryz.prog gl0 157 [⟨1, 1, true, .lst [[.osl 1 4 0 2]]⟩, ⟨4, 2, true, .lst [x.cells, y.cells]⟩] [.own 0 1 0 0 1, .isl 1 4 fun r k => atL (List.getD [[.int .i64 a0], [.int .i64 a1], [.int .i64 a2], [.int .i64 a3]] r []) k] .junk [some ⟨1, 1, true, .lst [[.osl 2 4 0 3]]⟩, none, some ⟨4, 3, true, .lst [x.cells, y.cells, (intsI [a0, a1, a2, a3]).cells]⟩] := by
  refine gives_sk (own := ow0) (hand := true) Tryz.func157 (by kernel_rfl) mixed (by kernel_rfl)
    (.dc (true) 142 ([AV.isl (1) (4) fun (r k : Nat) => atL (List.getD [[AV.int IntKind.i64 a0], [AV.int IntKind.i64 a1], [AV.int IntKind.i64 a2], [AV.int IntKind.i64 a3]] r []) k]) (It.av (intsI [a0, a1, a2, a3])) (.req (192 ≤ 140737488355328) (.req ((0 : Int) ≤ (↑(2) : Int) ∧ (↑(2) : Int) < (↑(3) : Int)) (.out (AV.tup []) ([some { es := 1, n := 1, mu := true, f := Rep.lst [[AV.osl (2) (4) (0) (3)]] }, none, some { es := 4, n := 3, mu := true, f := Rep.lst [[AV.int IntKind.i64 (It.kind x), AV.int IntKind.i64 (It.num x), AV.isl (1) (It.nb x) fun (i x_1 : Nat) => AV.int IntKind.u8 (It.fb x i), AV.isl (4) (It.nl x) (It.row x)], [AV.int IntKind.i64 (It.kind y), AV.int IntKind.i64 (It.num y), AV.isl (1) (It.nb y) fun (i x : Nat) => AV.int IntKind.u8 (It.fb y i), AV.isl (4) (It.nl y) (It.row y)], [AV.int IntKind.i64 (It.kind (intsI [a0, a1, a2, a3])), AV.int IntKind.i64 (It.num (intsI [a0, a1, a2, a3])), AV.isl (1) (0) fun (i x : Nat) => AV.int IntKind.u8 (It.fb (intsI [a0, a1, a2, a3]) i), AV.isl (4) (4) (It.row (intsI [a0, a1, a2, a3]))]] }]) (AV.junk) ([some { es := (1 : Nat), n := (1 : Nat), mu := true, f := Rep.lst [[AV.osl (2 : Nat) (4 : Nat) (0 : Nat) (3 : Nat)]] }, none, some { es := (4 : Nat), n := (3 : Nat), mu := true, f := Rep.lst [It.cells x, It.cells y, It.cells (intsI [a0, a1, a2, a3])] }])))))
    (by kernel_rfl) ?_
  refine k_dc (ints_4 (a0) (a1) (a2) (a3)) ?_
  refine k_req (by first | omega | (simp only [Int.toNat_natCast]; omega)) ?_
  refine k_req (by first | omega | (simp only [Int.toNat_natCast]; omega)) ?_
  exact k_outg (Ent.junk _) (by repeat' (first | exact trivial | (first | exact ObEnt.refl _ | exact ObEnt.junk | exact ObEnt.zero | exact ObEnt.push rfl rfl | exact ObEnt.pushRow rfl | exact ObEnt.len (by omega) | exact ObEnt.row (by repeat' (first | exact trivial | (first | exact Ent.refl _ | exact inc_ent (by omega) | exact Ent.nil rfl | exact Ent.of_eq (congrArg (AV.osl _ _ _) (by first | omega | (dsimp only; omega))) | exact Ent.of_eq (congrArg (AV.int _) (by first | omega | (dsimp only; omega)))) | refine And.intro ?_ ?_))) | refine And.intro ?_ ?_))

theorem citem_w (c : Coin) : Pure Tryz.prog gl0 129 [c.av] c.it.av := by
  refine pure_sk (own := ow4) Tryz.func129 (by kernel_rfl) mixed (by kernel_rfl)
    (.gc 157 ([{ es := 1, n := 1, mu := true, f := Rep.lst [[AV.nsl]] }]) ([AV.own (0) (1) (0) (0) (1), AV.isl (1) (5) fun (r k : Nat) => atL (List.getD [[AV.int IntKind.i64 c.1], [AV.int IntKind.i64 c.2], [AV.int IntKind.i64 c.3], [AV.int IntKind.i64 c.4], [AV.int IntKind.i64 c.5]] (r + 0) []) k]) (AV.junk) ([some { es := (1 : Nat), n := (1 : Nat), mu := true, f := Rep.lst [[AV.osl (1 : Nat) (4 : Nat) (0 : Nat) (1 : Nat)]] }, some { es := (4 : Nat), n := (1 : Nat), mu := true, f := Rep.lst [It.cells (intsI [c.1, c.2, c.3, c.4, c.5])] }]) (.gc 158 ([{ es := 1, n := 1, mu := true, f := Rep.lst [[AV.osl (1) (4) (0) (1)]] }, { es := 4, n := 1, mu := true, f := Rep.lst [[AV.int IntKind.i64 (It.kind (intsI [c.1, c.2, c.3, c.4, c.5])), AV.int IntKind.i64 (It.num (intsI [c.1, c.2, c.3, c.4, c.5])), AV.isl (1) (0) fun (i x : Nat) => AV.int IntKind.u8 (It.fb (intsI [c.1, c.2, c.3, c.4, c.5]) i), AV.isl (4) (5) (It.row (intsI [c.1, c.2, c.3, c.4, c.5]))]] }]) ([AV.own (0) (1) (0) (0) (1), AV.isl (1) (32) fun (r x : Nat) => AV.int IntKind.u8 (intOfAV (atL (Coin.cells c) (5 + (0 + r))))]) (AV.junk) ([some { es := (1 : Nat), n := (1 : Nat), mu := true, f := Rep.lst [[AV.osl (2 : Nat) (4 : Nat) (0 : Nat) (2 : Nat)]] }, none, some { es := (4 : Nat), n := (2 : Nat), mu := true, f := Rep.lst [It.cells (intsI [c.1, c.2, c.3, c.4, c.5]), It.cells (It.byt (32 : Nat) fun (i : Nat) => intOfAV (atL (Coin.cells c) (5 + (0 + i))))] }]) (.gc 157 ([{ es := 1, n := 1, mu := true, f := Rep.lst [[AV.osl (1) (4) (0) (2)]] }, { es := 4, n := 2, mu := true, f := Rep.lst [[AV.int IntKind.i64 (It.kind (intsI [c.1, c.2, c.3, c.4, c.5])), AV.int IntKind.i64 (It.num (intsI [c.1, c.2, c.3, c.4, c.5])), AV.isl (1) (0) fun (i x : Nat) => AV.int IntKind.u8 (It.fb (intsI [c.1, c.2, c.3, c.4, c.5]) i), AV.isl (4) (5) (It.row (intsI [c.1, c.2, c.3, c.4, c.5]))], [AV.int IntKind.i64 (It.kind (It.byt (32 : Nat) fun (i : Nat) => intOfAV (atL (Coin.cells c) (5 + (0 + i))))), AV.int IntKind.i64 (It.num (It.byt (32 : Nat) fun (i : Nat) => intOfAV (atL (Coin.cells c) (5 + (0 + i))))), AV.isl (1) (32) fun (i x : Nat) => AV.int IntKind.u8 (It.fb (It.byt (32) fun (i : Nat) => intOfAV (atL (Coin.cells c) (5 + (0 + i)))) i), AV.isl (4) (0) (It.row (It.byt (32) fun (i : Nat) => intOfAV (atL (Coin.cells c) (5 + (0 + i)))))]] }]) ([AV.own (0) (1) (0) (0) (1), AV.isl (1) (4) fun (r k : Nat) => atL (List.getD [[AV.int IntKind.i64 c.7], [AV.int IntKind.i64 c.8], [AV.int IntKind.i64 c.9], [AV.int IntKind.i64 c.10]] (r + 0) []) k]) (AV.junk) ([some { es := (1 : Nat), n := (1 : Nat), mu := true, f := Rep.lst [[AV.osl (2 : Nat) (4 : Nat) (0 : Nat) (3 : Nat)]] }, none, some { es := (4 : Nat), n := (3 : Nat), mu := true, f := Rep.lst [It.cells (intsI [c.1, c.2, c.3, c.4, c.5]), It.cells (It.byt (32 : Nat) fun (i : Nat) => intOfAV (atL (Coin.cells c) (5 + (0 + i)))), It.cells (intsI [c.7, c.8, c.9, c.10])] }]) (.out (AV.agg [AV.int IntKind.i64 (3 : Int), AV.int IntKind.i64 (0 : Int), AV.nsl, AV.isl (4) (3) fun (r k : Nat) => atL (List.getD [[AV.int IntKind.i64 (It.kind (intsI [c.1, c.2, c.3, c.4, c.5])), AV.int IntKind.i64 (It.num (intsI [c.1, c.2, c.3, c.4, c.5])), AV.isl (1) (0) fun (i x : Nat) => AV.int IntKind.u8 (It.fb (intsI [c.1, c.2, c.3, c.4, c.5]) i), AV.isl (4) (5) (It.row (intsI [c.1, c.2, c.3, c.4, c.5]))], [AV.int IntKind.i64 (It.kind (It.byt (32) fun (i : Nat) => intOfAV (atL (Coin.cells c) (5 + (0 + i))))), AV.int IntKind.i64 (It.num (It.byt (32) fun (i : Nat) => intOfAV (atL (Coin.cells c) (5 + (0 + i))))), AV.isl (1) (32) fun (i x : Nat) => AV.int IntKind.u8 (It.fb (It.byt (32) fun (i : Nat) => intOfAV (atL (Coin.cells c) (5 + (0 + i)))) i), AV.isl (4) (0) (It.row (It.byt (32) fun (i : Nat) => intOfAV (atL (Coin.cells c) (5 + (0 + i)))))], [AV.int IntKind.i64 (It.kind (intsI [c.7, c.8, c.9, c.10])), AV.int IntKind.i64 (It.num (intsI [c.7, c.8, c.9, c.10])), AV.isl (1) (0) fun (i x : Nat) => AV.int IntKind.u8 (It.fb (intsI [c.7, c.8, c.9, c.10]) i), AV.isl (4) (4) (It.row (intsI [c.7, c.8, c.9, c.10]))]] (r + 0) []) k]) [] (It.av (Coin.it c)) []))))
    (by kernel_rfl) ?_
  refine k_gc (wints_5 (c.1) (c.2) (c.3) (c.4) (c.5)) ?_
  refine k_gc (wbytes_1 (intsI [c.1, c.2, c.3, c.4, c.5]) (fun (i : Nat) => intOfAV (atL (Coin.cells c) (5 + (0 + i))))) ?_
  refine k_gc (wints_2 (intsI [c.1, c.2, c.3, c.4, c.5]) (It.byt (32 : Nat) fun (i : Nat) => intOfAV (atL (Coin.cells c) (5 + (0 + i)))) (c.7) (c.8) (c.9) (c.10)) ?_
  exact k_out (li3_out (EntL.refl _) ⟨Ent.refl _, Ent.refl _, bys_eq rfl (fun i hi => by
                                                                                                     show intOfAV (atL c.cells (5 + (0 + i))) = c.root i
                                                                                                     rw [Nat.zero_add]
                                                                                                     exact c.root_at hi), Ent.refl _, trivial⟩ (EntL.refl _))

theorem ritem_w (c : Coin) : Pure Tryz.prog gl0 99 [c.av] c.it.av := by
  refine pure_sk (own := ow4) Tryz.func99 (by kernel_rfl) mixed (by kernel_rfl)
    (.dc (true) 100 ([AV.isl (1) (5) fun (r k : Nat) => atL (List.getD [[AV.int IntKind.i64 c.1], [AV.int IntKind.i64 c.2], [AV.int IntKind.i64 c.3], [AV.int IntKind.i64 c.4], [AV.int IntKind.i64 c.5]] (r + 0) []) k]) (It.av (intsI [c.1, c.2, c.3, c.4, c.5])) (.dc (true) 96 ([AV.agg (u8c c.6)]) (It.av (It.byt (32 : Nat) c.6)) (.dc (true) 100 ([AV.isl (1) (4) fun (r k : Nat) => atL (List.getD [[AV.int IntKind.i64 c.7], [AV.int IntKind.i64 c.8], [AV.int IntKind.i64 c.9], [AV.int IntKind.i64 c.10]] (r + 0) []) k]) (It.av (intsI [c.7, c.8, c.9, c.10])) (.out (AV.agg [AV.int IntKind.i64 (3 : Int), AV.int IntKind.i64 (0 : Int), AV.nsl, AV.isl (4) (3) fun (r k : Nat) => atL (List.getD [[AV.int IntKind.i64 (It.kind (intsI [c.1, c.2, c.3, c.4, c.5])), AV.int IntKind.i64 (It.num (intsI [c.1, c.2, c.3, c.4, c.5])), AV.isl (1) (0) fun (i x : Nat) => AV.int IntKind.u8 (It.fb (intsI [c.1, c.2, c.3, c.4, c.5]) i), AV.isl (4) (5) (It.row (intsI [c.1, c.2, c.3, c.4, c.5]))], [AV.int IntKind.i64 (It.kind (It.byt (32) c.6)), AV.int IntKind.i64 (It.num (It.byt (32) c.6)), AV.isl (1) (32) fun (i x : Nat) => AV.int IntKind.u8 (It.fb (It.byt (32) c.6) i), AV.isl (4) (0) (It.row (It.byt (32) c.6))], [AV.int IntKind.i64 (It.kind (intsI [c.7, c.8, c.9, c.10])), AV.int IntKind.i64 (It.num (intsI [c.7, c.8, c.9, c.10])), AV.isl (1) (0) fun (i x : Nat) => AV.int IntKind.u8 (It.fb (intsI [c.7, c.8, c.9, c.10]) i), AV.isl (4) (4) (It.row (intsI [c.7, c.8, c.9, c.10]))]] (r + 0) []) k]) [] (It.av (Coin.it c)) []))))
    (by kernel_rfl) ?_
  refine k_dc (rints_5 (c.1) (c.2) (c.3) (c.4) (c.5)) ?_
  refine k_dc (rbytes31_c (c.6)) ?_
  refine k_dc (rints_4 (c.7) (c.8) (c.9) (c.10)) ?_
  exact k_out (li3_out (EntL.refl _) (EntL.refl _) (EntL.refl _))

end Go.Proofs.YtmhipmiacghgeaaGreatDoor

namespace Go.Proofs.YtmhipmiacghgeaaGreatDoor
open Go Go.Am Go.Sp
set_option maxRecDepth 100000

theorem node_c (d l i : Int) : Pure Tryz.prog gl0 44 [.int .i64 d, .agg [.int .i64 l, .int .i64 i]] (.bool (nodeB d l i)) := by
  refine pure_sk (own := ow0) Tryz.func44 (by kernel_rfl) mixed (by kernel_rfl)
    (.req (((decide (d ≥ (0 : Int)) && decide (d ≤ (5 : Int)) && decide (l ≥ (0 : Int)) && decide (l ≤ d) && decide (i ≥ (0 : Int))) == true) = true → (0 : Int) ≤ l) (.out (AV.bool (decide (d ≥ (0 : Int)) && decide (d ≤ (5 : Int)) && decide (l ≥ (0 : Int)) && decide (l ≤ d) && decide (i ≥ (0 : Int)) && decide (i < IntKind.wrap IntKind.i64 ((1 : Int) * (2 : Int) ^ min (Int.toNat l) (64))))) [] (AV.bool (nodeB d l i)) []))
    (by kernel_rfl) ?_
  refine k_req (fun hr => by have hr := (cnd_eqt_t (cnd_and_t (cnd_and_t (cnd_and_t (cnd_and_t cnd_dec_t cnd_dec_t) cnd_dec_t) cnd_dec_t) cnd_dec_t)) hr; first | omega | (simp only [Int.toNat_natCast] at *; omega)) ?_
  exact k_out (Ent.of_eq (congrArg _ (node_m d l i)))

theorem span_c (d l i : Int) : Pure Tryz.prog gl0 75 [.int .i64 d, .agg [.int .i64 l, .int .i64 i]] (.tup [.int .i64 (spanA d l i), .int .i64 (spanZ d l i), .int .i64 (spanE d l i)]) := by
  refine pure_sk (own := ow0) Tryz.func75 (by kernel_rfl) mixed (by kernel_rfl)
    (.br (decide (d < (0 : Int)) || decide (d > (5 : Int))) (.out (AV.tup [AV.int IntKind.i64 (0 : Int), AV.int IntKind.i64 (0 : Int), AV.int IntKind.i64 (1 : Int)]) [] (AV.tup [AV.int IntKind.i64 (spanA d l i), AV.int IntKind.i64 (spanZ d l i), AV.int IntKind.i64 (spanE d l i)]) []) (.sc (true) 44 ([AV.int IntKind.i64 d, AV.agg [AV.int IntKind.i64 l, AV.int IntKind.i64 i]]) (AV.bool (nodeB d l i)) (.br (!nodeB d l i) (.out (AV.tup [AV.int IntKind.i64 (0 : Int), AV.int IntKind.i64 (0 : Int), AV.int IntKind.i64 (2 : Int)]) [] (AV.tup [AV.int IntKind.i64 (spanA d l i), AV.int IntKind.i64 (spanZ d l i), AV.int IntKind.i64 (spanE d l i)]) []) (.req ((0 : Int) ≤ IntKind.wrap IntKind.i64 (d - l)) (.out (AV.tup [AV.int IntKind.i64 (IntKind.wrap IntKind.i64 (i * IntKind.wrap IntKind.i64 ((1 : Int) * (2 : Int) ^ min (Int.toNat (IntKind.wrap IntKind.i64 (d - l))) (64)))), AV.int IntKind.i64 (IntKind.wrap IntKind.i64 (IntKind.wrap IntKind.i64 (i + (1 : Int)) * IntKind.wrap IntKind.i64 ((1 : Int) * (2 : Int) ^ min (Int.toNat (IntKind.wrap IntKind.i64 (d - l))) (64)))), AV.int IntKind.i64 (0 : Int)]) [] (AV.tup [AV.int IntKind.i64 (spanA d l i), AV.int IntKind.i64 (spanZ d l i), AV.int IntKind.i64 (spanE d l i)]) [])))))
    (by kernel_rfl) ?_
  refine k_br (fun h0 => ?_) (fun h0 => ?_)
  · have g0 := (cnd_or_t cnd_dec_t cnd_dec_t) h0
    exact k_out (Ent.of_eq (by obtain ⟨a, b, c⟩ := span_1 (l := l) (i := i) h0; rw [a, b, c]))
  · have g0 := (cnd_or_f cnd_dec_f cnd_dec_f) h0
    refine k_sc (node_c (d) (l) (i)) ?_
    refine k_br (fun h3 => ?_) (fun h3 => ?_)
    · have g3 := (cnd_not_t cnd_id_f) h3
      exact k_out (Ent.of_eq (by obtain ⟨a, b, c⟩ := span_2 h0 h3; rw [a, b, c]))
    · have g3 := (cnd_not_f cnd_id_t) h3
      refine k_req ((span_3 h3).2.2.2) ?_
      exact k_out (Ent.of_eq (by obtain ⟨a, b, c, _⟩ := span_3 h3; rw [a, b, c]))

theorem rplace_c (d l i : Int) : Pure Tryz.prog gl0 147 [.int .i64 d, .int .i64 l, .int .i64 i] (.bool (placeB d l i)) := by
  refine pure_sk (own := ow0) Tryz.func147 (by kernel_rfl) mixed (by kernel_rfl)
    (.req (((decide (l ≥ (0 : Int)) && decide (l ≤ d) && decide (i ≥ (0 : Int))) == true) = true → (0 : Int) ≤ l) (.out (AV.bool (decide (l ≥ (0 : Int)) && decide (l ≤ d) && decide (i ≥ (0 : Int)) && decide (i < IntKind.wrap IntKind.i64 ((1 : Int) * (2 : Int) ^ min (Int.toNat l) (64))))) [] (AV.bool (placeB d l i)) []))
    (by kernel_rfl) ?_
  refine k_req (fun hr => by have hr := (cnd_eqt_t (cnd_and_t (cnd_and_t cnd_dec_t cnd_dec_t) cnd_dec_t)) hr; first | omega | (simp only [Int.toNat_natCast] at *; omega)) ?_
  exact k_out (Ent.refl _)

theorem rnode_c (d l i : Int) : Pure Tryz.prog gl0 112 [.int .i64 d, .agg [.int .i64 l, .int .i64 i]] (.bool (nodeB d l i)) := by
  refine pure_sk (own := ow0) Tryz.func112 (by kernel_rfl) mixed (by kernel_rfl)
    (.sc ((decide (d ≥ (0 : Int)) && decide (d ≤ (5 : Int))) == true) 147 ([AV.int IntKind.i64 d, AV.int IntKind.i64 l, AV.int IntKind.i64 i]) (AV.bool (placeB d l i)) (.out (AV.bool (decide (d ≥ (0 : Int)) && decide (d ≤ (5 : Int)) && placeB d l i)) [] (AV.bool (nodeB d l i)) []))
    (by kernel_rfl) ?_
  refine k_scg (fun h0 => rplace_c (d) (l) (i)) ?_
  exact k_out (Ent.of_eq (congrArg _ (place_node d l i)))

theorem context_c (x : Cxt) : Pure Tryz.prog gl0 107 [x.av] (.bool (ctxB x.time x.number)) := by
  refine pure_sk (own := ow0) Tryz.func107 (by kernel_rfl) mixed (by kernel_rfl)
    (.out (AV.bool (decide (x.2 ≥ (0 : Int)) && decide (x.2 ≤ (1099511627776 : Int)) && decide (x.3 ≥ (0 : Int)) && decide (x.3 ≤ (1073741824 : Int)))) [] (AV.bool (ctxB (Cxt.time x) (Cxt.number x))) [])
    (by kernel_rfl) ?_
  exact k_out (Ent.refl _)

theorem rctx_c (x : Cxt) : Pure Tryz.prog gl0 113 [x.av] (.bool (ctxB x.time x.number)) := by
  refine pure_sk (own := ow0) Tryz.func113 (by kernel_rfl) mixed (by kernel_rfl)
    (.out (AV.bool (decide (x.2 ≥ (0 : Int)) && decide (x.2 ≤ (1099511627776 : Int)) && decide (x.3 ≥ (0 : Int)) && decide (x.3 ≤ (1073741824 : Int)))) [] (AV.bool (ctxB (Cxt.time x) (Cxt.number x))) [])
    (by kernel_rfl) ?_
  exact k_out (Ent.refl _)

theorem rspan_c (d l i : Int) (h : nodeB d l i = true) : Pure Tryz.prog gl0 79 [.int .i64 d, .agg [.int .i64 l, .int .i64 i]] (.tup [.int .i64 (spanA d l i), .int .i64 (spanZ d l i)]) := by
  refine pure_sk (own := ow0) Tryz.func79 (by kernel_rfl) mixed (by kernel_rfl)
    (.req ((0 : Int) ≤ IntKind.wrap IntKind.u64 (IntKind.wrap IntKind.i64 (d - l))) (.out (AV.tup [AV.int IntKind.i64 (IntKind.wrap IntKind.i64 (i * IntKind.wrap IntKind.i64 ((1 : Int) * (2 : Int) ^ min (Int.toNat (IntKind.wrap IntKind.u64 (IntKind.wrap IntKind.i64 (d - l)))) (64)))), AV.int IntKind.i64 (IntKind.wrap IntKind.i64 (IntKind.wrap IntKind.i64 (i + (1 : Int)) * IntKind.wrap IntKind.i64 ((1 : Int) * (2 : Int) ^ min (Int.toNat (IntKind.wrap IntKind.u64 (IntKind.wrap IntKind.i64 (d - l)))) (64))))]) [] (AV.tup [AV.int IntKind.i64 (spanA d l i), AV.int IntKind.i64 (spanZ d l i)]) []))
    (by kernel_rfl) ?_
  refine k_req (wU_nonneg _) ?_
  exact k_out (Ent.of_eq (by obtain ⟨a, b⟩ := rspan_m h; rw [a, b]))

theorem cdig_c (c : Coin) (hr : byB c.root 32) : Pure Tryz.prog gl0 90 [c.av] (.agg (u8c c.dig)) := by
  have hi := citem_w c
  have he := encode_c c.it c.it_ok (by rw [c.it_len]; decide)
  have ht := tagged_c "specie/coin-item".toUTF8 (by decide) (by decide) (fun i => c.it.enc.getD i 0) c.it.enc.length (by rw [c.it_len]; decide) (It.enc_by (Coin.it_okB hr))
  refine pure_sk (own := ow0) Tryz.func90 (by kernel_rfl) mixed (by kernel_rfl)
    (.dc (true) 129 ([AV.agg (Coin.cells c)]) (It.av (Coin.it c)) (.dc (true) 127 ([AV.agg [AV.int IntKind.i64 (It.kind (Coin.it c)), AV.int IntKind.i64 (It.num (Coin.it c)), AV.isl (1) (0) fun (i x : Nat) => AV.int IntKind.u8 (It.fb (Coin.it c) i), AV.isl (4) (3) (It.row (Coin.it c))]]) (AV.tup [il IntKind.u8 (It.enc (Coin.it c)), AV.int IntKind.i64 (0 : Int)]) (.sc (true) 128 ([AV.str { data := #[(115 : UInt8), (112 : UInt8), (101 : UInt8), (99 : UInt8), (105 : UInt8), (101 : UInt8), (47 : UInt8), (99 : UInt8), (111 : UInt8), (105 : UInt8), (110 : UInt8), (45 : UInt8), (105 : UInt8), (116 : UInt8), (101 : UInt8), (109 : UInt8)] }, AV.isl (1) (133) fun (i x : Nat) => AV.int IntKind.u8 (List.getD (It.enc (Coin.it c)) i (0 : Int))]) (AV.tup [AV.agg (u8c (tagF (String.toUTF8 "specie/coin-item") (List.length (It.enc (Coin.it c))) fun (i : Nat) => List.getD (It.enc (Coin.it c)) i (0 : Int))), AV.int IntKind.i64 (0 : Int)]) (.out (AV.agg (u8c (tagF (String.toUTF8 "specie/coin-item") (133) fun (i : Nat) => List.getD (It.enc (Coin.it c)) i (0 : Int)))) [] (AV.agg (u8c (Coin.dig c))) []))))
    (by kernel_rfl) ?_
  refine k_dc (hi) ?_
  refine k_dc (he) ?_
  refine k_sc (ht) ?_
  exact k_out (Ent.refl _)

theorem rcdig_c (c : Coin) (hr : byB c.root 32) : Pure Tryz.prog gl0 48 [c.av] (.agg (u8c c.dig)) := by
  have hi := ritem_w c
  have he := renc_c c.it (by rw [c.it_len]; decide)
  have ht := rtagged_c "specie/coin-item".toUTF8 (by decide) (fun i => c.it.enc.getD i 0) c.it.enc.length (by rw [c.it_len]; decide) (It.enc_by (Coin.it_okB hr))
  refine pure_sk (own := ow0) Tryz.func48 (by kernel_rfl) mixed (by kernel_rfl)
    (.dc (true) 99 ([AV.agg (Coin.cells c)]) (It.av (Coin.it c)) (.dc (true) 98 ([AV.agg [AV.int IntKind.i64 (It.kind (Coin.it c)), AV.int IntKind.i64 (It.num (Coin.it c)), AV.isl (1) (0) fun (i x : Nat) => AV.int IntKind.u8 (It.fb (Coin.it c) i), AV.isl (4) (3) (It.row (Coin.it c))]]) (il IntKind.u8 (It.enc (Coin.it c))) (.sc (true) 97 ([AV.str { data := #[(115 : UInt8), (112 : UInt8), (101 : UInt8), (99 : UInt8), (105 : UInt8), (101 : UInt8), (47 : UInt8), (99 : UInt8), (111 : UInt8), (105 : UInt8), (110 : UInt8), (45 : UInt8), (105 : UInt8), (116 : UInt8), (101 : UInt8), (109 : UInt8)] }, AV.isl (1) (133) fun (i x : Nat) => AV.int IntKind.u8 (List.getD (It.enc (Coin.it c)) i (0 : Int))]) (AV.agg (u8c (tagF (String.toUTF8 "specie/coin-item") (List.length (It.enc (Coin.it c))) fun (i : Nat) => List.getD (It.enc (Coin.it c)) i (0 : Int)))) (.out (AV.agg (u8c (tagF (String.toUTF8 "specie/coin-item") (133) fun (i : Nat) => List.getD (It.enc (Coin.it c)) i (0 : Int)))) [] (AV.agg (u8c (Coin.dig c))) []))))
    (by kernel_rfl) ?_
  refine k_dc (hi) ?_
  refine k_dc (he) ?_
  refine k_sc (ht) ?_
  exact k_out (Ent.refl _)

theorem list4 (a b c d : It) : Pure Tryz.prog gl0 140 [.isl 4 4 fun r k => atL (List.getD [a.cells, b.cells, c.cells, d.cells] r []) k] (lsI [a, b, c, d]).av :=
  (list_c 4 _).ent (li4_out (EntL.refl _) (EntL.refl _) (EntL.refl _) (EntL.refl _))

theorem rlist_c (n : Nat) (f : Nat → Nat → AV) : Pure Tryz.prog gl0 102 [.isl 4 n f] (.agg [.int .i64 3, .int .i64 0, .nsl, .isl 4 n f]) := by
  refine pure_sk (own := ow0) Tryz.func102 (by kernel_rfl) mixed (by kernel_rfl)
    (.out (AV.agg [AV.int IntKind.i64 (3 : Int), AV.int IntKind.i64 (0 : Int), AV.nsl, AV.isl (4) n f]) [] (AV.agg [AV.int IntKind.i64 (3 : Int), AV.int IntKind.i64 (0 : Int), AV.nsl, AV.isl (4 : Nat) n f]) [])
    (by kernel_rfl) ?_
  exact k_out (Ent.refl _)

theorem rlist4 (a b c d : It) : Pure Tryz.prog gl0 102 [.isl 4 4 fun r k => atL (List.getD [a.cells, b.cells, c.cells, d.cells] r []) k] (lsI [a, b, c, d]).av :=
  (rlist_c 4 _).ent (li4_out (EntL.refl _) (EntL.refl _) (EntL.refl _) (EntL.refl _))

theorem chal_c (b : Bas) (c : Coin) (l i : Int) (x : Cxt) (hr : byB c.root 32) (hp : byB x.payee 32) (hq : 0 < b.gr.q) (hq' : b.gr.q < 2305843009213693952) : Pure Tryz.prog gl0 108 [b.av, c.av, .agg [.int .i64 l, .int .i64 i], x.av] (.int .i64 (chalN b.gr.q c l i x)) := by
  have hd := cdig_c c hr
  have hb := bytes_c c.dig
  have hb2 := bytes_c x.payee
  have hi := ints_2 l i
  have hi2 := ints_2 x.time x.number
  have hl := list4 (.byt 32 c.dig) (intsI [l, i]) (.byt 32 x.payee) (intsI [x.time, x.number])
  have he := encode_c (chalI c l i x) (chal_ok c l i x) (by rw [chal_len]; decide)
  have ht := tagged_c "specie/spend".toUTF8 (by decide) (by decide) (fun k => (chalI c l i x).enc.getD k 0) (chalI c l i x).enc.length (by rw [chal_len]; decide) (It.enc_by (chal_okB hp))
  have hn := number_c (tagI "specie/spend".toUTF8 (chalI c l i x)) b.gr.q hq hq' (tagI_by _ _ _)
  refine pure_sk (own := ow0) Tryz.func108 (by kernel_rfl) mixed (by kernel_rfl)
    (.sc (true) 90 ([AV.agg (Coin.cells c)]) (AV.agg (u8c (Coin.dig c))) (.dc (true) 141 ([AV.agg (u8c (Coin.dig c))]) (It.av (It.byt (32 : Nat) (Coin.dig c))) (.dc (true) 142 ([AV.isl (1) (2) fun (r k : Nat) => atL (List.getD [[AV.int IntKind.i64 l], [AV.int IntKind.i64 i]] (r + 0) []) k]) (It.av (intsI [l, i])) (.dc (true) 141 ([AV.agg (u8c x.1)]) (It.av (It.byt (32 : Nat) (Cxt.payee x))) (.dc (true) 142 ([AV.isl (1) (2) fun (r k : Nat) => atL (List.getD [[AV.int IntKind.i64 x.2], [AV.int IntKind.i64 x.3]] (r + 0) []) k]) (It.av (intsI [Cxt.time x, Cxt.number x])) (.dc (true) 140 ([AV.isl (4) (4) fun (r k : Nat) => atL (List.getD [[AV.int IntKind.i64 (It.kind (It.byt (32) (Coin.dig c))), AV.int IntKind.i64 (It.num (It.byt (32) (Coin.dig c))), AV.isl (1) (32) fun (i x : Nat) => AV.int IntKind.u8 (It.fb (It.byt (32) (Coin.dig c)) i), AV.isl (4) (0) (It.row (It.byt (32) (Coin.dig c)))], [AV.int IntKind.i64 (It.kind (intsI [l, i])), AV.int IntKind.i64 (It.num (intsI [l, i])), AV.isl (1) (0) fun (i_1 x : Nat) => AV.int IntKind.u8 (It.fb (intsI [l, i]) i_1), AV.isl (4) (2) (It.row (intsI [l, i]))], [AV.int IntKind.i64 (It.kind (It.byt (32) x.1)), AV.int IntKind.i64 (It.num (It.byt (32) x.1)), AV.isl (1) (32) fun (i x_1 : Nat) => AV.int IntKind.u8 (It.fb (It.byt (32) x.1) i), AV.isl (4) (0) (It.row (It.byt (32) x.1))], [AV.int IntKind.i64 (It.kind (intsI [x.2, x.3])), AV.int IntKind.i64 (It.num (intsI [x.2, x.3])), AV.isl (1) (0) fun (i x_1 : Nat) => AV.int IntKind.u8 (It.fb (intsI [x.2, x.3]) i), AV.isl (4) (2) (It.row (intsI [x.2, x.3]))]] (r + 0) []) k]) (It.av (lsI [It.byt (32 : Nat) (Coin.dig c), intsI [l, i], It.byt (32 : Nat) (Cxt.payee x), intsI [Cxt.time x, Cxt.number x]])) (.dc (true) 127 ([AV.agg [AV.int IntKind.i64 (It.kind (lsI [It.byt (32) (Coin.dig c), intsI [l, i], It.byt (32) x.1, intsI [x.2, x.3]])), AV.int IntKind.i64 (It.num (lsI [It.byt (32) (Coin.dig c), intsI [l, i], It.byt (32) x.1, intsI [x.2, x.3]])), AV.isl (1) (0) fun (i_1 x_1 : Nat) => AV.int IntKind.u8 (It.fb (lsI [It.byt (32) (Coin.dig c), intsI [l, i], It.byt (32) x.1, intsI [x.2, x.3]]) i_1), AV.isl (4) (4) (It.row (lsI [It.byt (32) (Coin.dig c), intsI [l, i], It.byt (32) x.1, intsI [x.2, x.3]]))]]) (AV.tup [il IntKind.u8 (It.enc (chalI c l i x)), AV.int IntKind.i64 (0 : Int)]) (.sc (true) 128 ([AV.str { data := #[(115 : UInt8), (112 : UInt8), (101 : UInt8), (99 : UInt8), (105 : UInt8), (101 : UInt8), (47 : UInt8), (115 : UInt8), (112 : UInt8), (101 : UInt8), (110 : UInt8), (100 : UInt8)] }, AV.isl (1) (125) fun (i_1 x_1 : Nat) => AV.int IntKind.u8 (List.getD (It.enc (chalI c l i x)) i_1 (0 : Int))]) (AV.tup [AV.agg (u8c (tagF (String.toUTF8 "specie/spend") (List.length (It.enc (chalI c l i x))) fun (k : Nat) => List.getD (It.enc (chalI c l i x)) k (0 : Int))), AV.int IntKind.i64 (0 : Int)]) (.sc (true) 143 ([AV.agg (u8c (tagF (String.toUTF8 "specie/spend") (125) fun (k : Nat) => List.getD (It.enc (chalI c l i x)) k (0 : Int))), AV.int IntKind.i64 (Bas.gr b).2]) (AV.tup [AV.int IntKind.i64 (numF (tagI (String.toUTF8 "specie/spend") (chalI c l i x)) (Grp.q (Bas.gr b)) (16 : Nat)), AV.int IntKind.i64 (0 : Int)]) (.out (AV.int IntKind.i64 (numF (tagI (String.toUTF8 "specie/spend") (chalI c l i x)) (Bas.gr b).2 (16))) [] (AV.int IntKind.i64 (chalN (Grp.q (Bas.gr b)) c l i x)) []))))))))))
    (by kernel_rfl) ?_
  refine k_sc (hd) ?_
  refine k_dc (hb) ?_
  refine k_dc (hi) ?_
  refine k_dc (hb2) ?_
  refine k_dc (hi2) ?_
  refine k_dc (hl) ?_
  refine k_dc (he) ?_
  refine k_sc (ht) ?_
  refine k_sc (hn) ?_
  exact k_out (Ent.refl _)

theorem rchal_c (b : Bas) (c : Coin) (l i : Int) (x : Cxt) (hr : byB c.root 32) (hp : byB x.payee 32) (hq : 0 < b.gr.q) (hq' : b.gr.q < 2305843009213693952) : Pure Tryz.prog gl0 49 [b.av, c.av, .agg [.int .i64 l, .int .i64 i], x.av] (.int .i64 (chalN b.gr.q c l i x)) := by
  have hd := rcdig_c c hr
  have hb := rbytes31_c c.dig
  have hb2 := rbytes31_c x.payee
  have hi := rints_2 l i
  have hi2 := rints_2 x.time x.number
  have hl := rlist4 (.byt 32 c.dig) (intsI [l, i]) (.byt 32 x.payee) (intsI [x.time, x.number])
  have he := renc_c (chalI c l i x) (by rw [chal_len]; decide)
  have ht := rtagged_c "specie/spend".toUTF8 (by decide) (fun k => (chalI c l i x).enc.getD k 0) (chalI c l i x).enc.length (by rw [chal_len]; decide) (It.enc_by (chal_okB hp))
  have hn := rnumber_c (tagI "specie/spend".toUTF8 (chalI c l i x)) b.gr.q hq hq' (tagI_by _ _ _)
  refine pure_sk (own := ow0) Tryz.func49 (by kernel_rfl) mixed (by kernel_rfl)
    (.sc (true) 48 ([AV.agg (Coin.cells c)]) (AV.agg (u8c (Coin.dig c))) (.dc (true) 96 ([AV.agg (u8c (Coin.dig c))]) (It.av (It.byt (32 : Nat) (Coin.dig c))) (.dc (true) 100 ([AV.isl (1) (2) fun (r k : Nat) => atL (List.getD [[AV.int IntKind.i64 l], [AV.int IntKind.i64 i]] (r + 0) []) k]) (It.av (intsI [l, i])) (.dc (true) 96 ([AV.agg (u8c x.1)]) (It.av (It.byt (32 : Nat) (Cxt.payee x))) (.dc (true) 100 ([AV.isl (1) (2) fun (r k : Nat) => atL (List.getD [[AV.int IntKind.i64 x.2], [AV.int IntKind.i64 x.3]] (r + 0) []) k]) (It.av (intsI [Cxt.time x, Cxt.number x])) (.dc (true) 102 ([AV.isl (4) (4) fun (r k : Nat) => atL (List.getD [[AV.int IntKind.i64 (It.kind (It.byt (32) (Coin.dig c))), AV.int IntKind.i64 (It.num (It.byt (32) (Coin.dig c))), AV.isl (1) (32) fun (i x : Nat) => AV.int IntKind.u8 (It.fb (It.byt (32) (Coin.dig c)) i), AV.isl (4) (0) (It.row (It.byt (32) (Coin.dig c)))], [AV.int IntKind.i64 (It.kind (intsI [l, i])), AV.int IntKind.i64 (It.num (intsI [l, i])), AV.isl (1) (0) fun (i_1 x : Nat) => AV.int IntKind.u8 (It.fb (intsI [l, i]) i_1), AV.isl (4) (2) (It.row (intsI [l, i]))], [AV.int IntKind.i64 (It.kind (It.byt (32) x.1)), AV.int IntKind.i64 (It.num (It.byt (32) x.1)), AV.isl (1) (32) fun (i x_1 : Nat) => AV.int IntKind.u8 (It.fb (It.byt (32) x.1) i), AV.isl (4) (0) (It.row (It.byt (32) x.1))], [AV.int IntKind.i64 (It.kind (intsI [x.2, x.3])), AV.int IntKind.i64 (It.num (intsI [x.2, x.3])), AV.isl (1) (0) fun (i x_1 : Nat) => AV.int IntKind.u8 (It.fb (intsI [x.2, x.3]) i), AV.isl (4) (2) (It.row (intsI [x.2, x.3]))]] (r + 0) []) k]) (It.av (lsI [It.byt (32 : Nat) (Coin.dig c), intsI [l, i], It.byt (32 : Nat) (Cxt.payee x), intsI [Cxt.time x, Cxt.number x]])) (.dc (true) 98 ([AV.agg [AV.int IntKind.i64 (It.kind (lsI [It.byt (32) (Coin.dig c), intsI [l, i], It.byt (32) x.1, intsI [x.2, x.3]])), AV.int IntKind.i64 (It.num (lsI [It.byt (32) (Coin.dig c), intsI [l, i], It.byt (32) x.1, intsI [x.2, x.3]])), AV.isl (1) (0) fun (i_1 x_1 : Nat) => AV.int IntKind.u8 (It.fb (lsI [It.byt (32) (Coin.dig c), intsI [l, i], It.byt (32) x.1, intsI [x.2, x.3]]) i_1), AV.isl (4) (4) (It.row (lsI [It.byt (32) (Coin.dig c), intsI [l, i], It.byt (32) x.1, intsI [x.2, x.3]]))]]) (il IntKind.u8 (It.enc (chalI c l i x))) (.sc (true) 97 ([AV.str { data := #[(115 : UInt8), (112 : UInt8), (101 : UInt8), (99 : UInt8), (105 : UInt8), (101 : UInt8), (47 : UInt8), (115 : UInt8), (112 : UInt8), (101 : UInt8), (110 : UInt8), (100 : UInt8)] }, AV.isl (1) (125) fun (i_1 x_1 : Nat) => AV.int IntKind.u8 (List.getD (It.enc (chalI c l i x)) i_1 (0 : Int))]) (AV.agg (u8c (tagF (String.toUTF8 "specie/spend") (List.length (It.enc (chalI c l i x))) fun (k : Nat) => List.getD (It.enc (chalI c l i x)) k (0 : Int)))) (.sc (true) 101 ([AV.agg (u8c (tagF (String.toUTF8 "specie/spend") (125) fun (k : Nat) => List.getD (It.enc (chalI c l i x)) k (0 : Int))), AV.int IntKind.i64 (Bas.gr b).2]) (AV.int IntKind.i64 (numF (tagI (String.toUTF8 "specie/spend") (chalI c l i x)) (Grp.q (Bas.gr b)) (16 : Nat))) (.out (AV.int IntKind.i64 (numF (tagI (String.toUTF8 "specie/spend") (chalI c l i x)) (Bas.gr b).2 (16))) [] (AV.int IntKind.i64 (chalN (Grp.q (Bas.gr b)) c l i x)) []))))))))))
    (by kernel_rfl) ?_
  refine k_sc (hd) ?_
  refine k_dc (hb) ?_
  refine k_dc (hi) ?_
  refine k_dc (hb2) ?_
  refine k_dc (hi2) ?_
  refine k_dc (hl) ?_
  refine k_dc (he) ?_
  refine k_sc (ht) ?_
  refine k_sc (hn) ?_
  exact k_out (Ent.refl _)

end Go.Proofs.YtmhipmiacghgeaaGreatDoor

namespace Go.Sp
open Go Go.Am

theorem inv_uniq {a m x y : Int} (hx : 0 ≤ x ∧ x < m) (hy : 0 ≤ y ∧ y < m) (h1 : m ∣ a * x - 1) (h2 : m ∣ a * y - 1) : x = y := by
  have h : m ∣ x - y := by
    obtain ⟨k, hk⟩ := h1
    obtain ⟨j, hj⟩ := h2
    refine ⟨x * j * (-1) + y * k, ?_⟩
    have e1 : a * x * y = (1 + m * k) * y := by rw [← hk]; grind
    have e2 : a * y * x = (1 + m * j) * x := by rw [← hj]; grind
    grind
  have e := Int.emod_eq_emod_iff_emod_sub_eq_zero.2 (Int.emod_eq_zero_of_dvd h)
  rwa [Int.emod_eq_of_lt hx.1 hx.2, Int.emod_eq_of_lt hy.1 hy.2] at e

open Classical in
/-- The inverse of a number, 0 if there is none. -/
noncomputable def invF (a m : Int) : Int := if h : ∃ x, (0 ≤ x ∧ x < m) ∧ m ∣ a * x - 1 then Classical.choose h else 0
theorem invF_eq {a m x : Int} (hx : 0 ≤ x ∧ x < m) (h : m ∣ a * x - 1) : invF a m = x := by
  have hh : ∃ x, (0 ≤ x ∧ x < m) ∧ m ∣ a * x - 1 := ⟨x, hx, h⟩
  unfold invF
  rw [dif_pos hh]
  exact inv_uniq (Classical.choose_spec hh).1 hx (Classical.choose_spec hh).2 h
theorem invF_none {a m : Int} (h : Int.gcd a m ≠ 1) : invF a m = 0 := by
  unfold invF
  refine dif_neg ?_
  rintro ⟨x, _, k, hk⟩
  apply h
  have h1 : ((Int.gcd a m : Nat) : Int) ∣ 1 := by
    obtain ⟨p, hp⟩ := Int.gcd_dvd_left (a := a) (b := m)
    obtain ⟨q, hq⟩ := Int.gcd_dvd_right (a := a) (b := m)
    refine ⟨p * x - q * k, ?_⟩
    have e : a * x - m * k = 1 := by omega
    generalize (Int.gcd a m : Int) = g at *
    rw [hp, hq] at e
    grind
  have := Int.le_of_dvd (by decide) h1
  have h0 : Int.gcd a m ≠ 0 := fun h0 => by rw [h0] at h1; simp at h1
  omega
theorem invF_bound {a m : Int} (hm : 0 < m) : 0 ≤ invF a m ∧ invF a m < m := by
  unfold invF
  split
  · rename_i h
    exact (Classical.choose_spec h).1
  · omega

/-- One state of Euclid's walk. -/
structure EgI (a0 m d a x n : Int) : Prop where
  an : 0 ≤ a
  ad : a < d
  d1 : d ≤ m
  sg : ∃ u v : Int, 0 ≤ u ∧ u ≤ m ∧ 0 ≤ v ∧ v ≤ m ∧ (x = -u ∧ n = v ∨ x = u ∧ n = -v) ∧ v * d + u * a = m
  c1 : m ∣ a0 * x - d
  c2 : m ∣ a0 * n - a
  g : Int.gcd d a = Int.gcd a0 m
theorem EgI.start {a m : Int} (h0 : 0 ≤ a) (h1 : a < m) : EgI a m m a 0 1 where
  an := h0
  ad := h1
  d1 := Int.le_refl _
  sg := ⟨0, 1, by omega, by omega, by omega, by omega, Or.inl ⟨rfl, rfl⟩, by omega⟩
  c1 := ⟨-1, by omega⟩
  c2 := ⟨0, by omega⟩
  g := Int.gcd_comm _ _
theorem EgI.nxt {a0 m d a x n : Int} (h : EgI a0 m d a x n) (ha : a ≠ 0) : EgI a0 m a (d % a) n (x - d / a * n) ∧ 0 ≤ d / a ∧ d / a * a ≤ d ∧ -m ≤ d / a * n ∧ d / a * n ≤ m ∧ -m ≤ n ∧ n ≤ m ∧ d - d / a * a = d % a := by
  have p : 0 < a := by have := h.an; omega
  have q0 : 0 ≤ d / a := Int.ediv_nonneg (by have := h.ad; omega) (by omega)
  have e := Int.mul_ediv_add_emod d a
  have r0 := Int.emod_nonneg d ha
  have r1 := Int.emod_lt_of_pos d p
  have hd := h.ad
  have hm := h.d1
  obtain ⟨u, v, u0, u1, v0, v1, hs, hv⟩ := h.sg
  generalize d / a = q at *
  generalize hr : d % a = r at *
  have qv : 0 ≤ q * v := Int.mul_nonneg q0 v0
  have hv' : (u + q * v) * a + v * r = m := by rw [← hv, ← e]; grind
  have vr : 0 ≤ v * r := Int.mul_nonneg v0 r0
  have t0 : 0 ≤ u + q * v := by omega
  have t1 : u + q * v ≤ m := by
    have : (u + q * v) * 1 ≤ (u + q * v) * a := Int.mul_le_mul_of_nonneg_left (by omega) t0
    omega
  refine ⟨⟨r0, r1, by omega, ⟨v, u + q * v, v0, v1, t0, t1, ?_, hv'⟩, h.c2, ?_, ?_⟩, q0, by rw [Int.mul_comm]; omega, ?_, ?_, ?_, ?_, by rw [Int.mul_comm]; omega⟩
  · rcases hs with ⟨rfl, rfl⟩ | ⟨rfl, rfl⟩
    · exact Or.inr ⟨rfl, by omega⟩
    · refine Or.inl ⟨rfl, ?_⟩
      rw [Int.mul_neg]; omega
  · obtain ⟨k, hk⟩ := h.c1
    obtain ⟨j, hj⟩ := h.c2
    refine ⟨k - q * j, ?_⟩
    have : a0 * (x - q * n) - r = (a0 * x - d) - q * (a0 * n - a) + (d - a * q - r) := by grind
    rw [this, hk, hj, show d - a * q - r = 0 by omega]
    grind
  · rw [← h.g, Int.gcd_comm d a, show r = d - a * q by omega]
    exact Int.gcd_sub_mul_left_right _ _ _
  · rcases hs with ⟨_, rfl⟩ | ⟨_, rfl⟩
    · omega
    · rw [Int.mul_neg]; omega
  · rcases hs with ⟨_, rfl⟩ | ⟨_, rfl⟩
    · omega
    · rw [Int.mul_neg]; omega
  · omega
  · omega
/-- Euclid's walk. -/
def eg (d a x n : Int) : Int × Int := if 0 < a then eg a (d % a) n (x - d / a * n) else (d, x)
termination_by a.toNat
decreasing_by have := Int.emod_lt_of_pos d (by assumption : 0 < a); have := Int.emod_nonneg d (by omega : a ≠ 0); omega
theorem eg_step {d a x n : Int} (h : 0 < a) : eg d a x n = eg a (d % a) n (x - d / a * n) := by
  rw [eg, if_pos h]
theorem eg_end {d a x n : Int} (h : ¬ 0 < a) : eg d a x n = (d, x) := by
  rw [eg, if_neg h]
/-- A state on the way to the end. -/
def EgW (a m : Int) (s : Int × Int × Int × Int) : Prop := EgI a m s.1 s.2.1 s.2.2.1 s.2.2.2 ∧ eg s.1 s.2.1 s.2.2.1 s.2.2.2 = eg m a 0 1
theorem EgW.start {a m : Int} (h0 : 0 ≤ a) (h1 : a < m) : EgW a m (m, a, 0, 1) := ⟨.start h0 h1, rfl⟩
theorem EgW.step {a0 m d a x n : Int} (h : EgW a0 m (d, a, x, n)) (ha : a ≠ 0) : EgW a0 m (a, d % a, n, x - d / a * n) :=
  ⟨(h.1.nxt ha).1, (eg_step (by have := h.1.an; dsimp only at this; omega)).symm.trans h.2⟩
/-- What Euclid's walk finds. -/
def egX (a m : Int) : Int := let x := (eg m a 0 1).2; (if x < 0 then x + m else x) % m
theorem EgW.fin {a0 m d a x n : Int} (h : EgW a0 m (d, a, x, n)) (ha : a = 0) : d = Int.gcd a0 m ∧ eg m a0 0 1 = (d, x) ∧ -m ≤ x ∧ x ≤ m := by
  subst ha
  obtain ⟨h1, h2⟩ := h
  dsimp only at h1 h2
  refine ⟨?_, by rw [← h2]; exact eg_end (by omega), ?_⟩
  · rw [← h1.g, Int.gcd_zero_right]
    have := h1.ad
    omega
  · obtain ⟨u, v, u0, u1, v0, v1, hs, hv⟩ := h1.sg
    omega
theorem EgW.all {a0 m : Int} : ∀ (k : Nat) (s : Int × Int × Int × Int), s.2.1.toNat ≤ k → EgW a0 m s → ∃ d x n, EgW a0 m (d, 0, x, n)
  | k, (d, a, x, n), hk, h => by
    by_cases ha : a = 0
    · subst ha; exact ⟨d, x, n, h⟩
    · have h0 := h.1.an
      dsimp only at h0 hk
      cases k with
      | zero => omega
      | succ k =>
        have := Int.emod_lt_of_pos d (show 0 < a by omega)
        have := Int.emod_nonneg d ha
        exact EgW.all k _ (by dsimp only; omega) (h.step ha)
theorem egX_inv {a m : Int} (h0 : 0 ≤ a) (h1 : a < m) : (0 ≤ egX a m ∧ egX a m < m) ∧ (Int.gcd a m = 1 → egX a m = invF a m) := by
  obtain ⟨d, x, n, h⟩ := EgW.all _ _ (Nat.le_refl _) (EgW.start h0 h1)
  obtain ⟨hd, he, -, -⟩ := h.fin rfl
  have hb : 0 ≤ egX a m ∧ egX a m < m := ⟨Int.emod_nonneg _ (by omega), Int.emod_lt_of_pos _ (by omega)⟩
  refine ⟨hb, fun hg => (invF_eq hb ?_).symm⟩
  have c1 := h.1.c1
  dsimp only at c1
  rw [hd, hg] at c1
  unfold egX
  rw [he]
  dsimp only
  obtain ⟨k, hk⟩ := c1
  have e2 : ∀ y : Int, a * (y % m) - 1 = (a * y - 1) - m * (a * (y / m)) := fun y => by
    have := Int.mul_ediv_add_emod y m
    generalize y / m = q at *
    generalize y % m = r at *
    rw [← this]; grind
  split
  · rw [e2]
    refine ⟨k + a - a * ((x + m) / m), ?_⟩
    have : a * (x + m) - 1 = m * k + m * a := by
      have : a * x - 1 = m * k := hk
      grind
    rw [this]; grind
  · rw [e2]
    refine ⟨k - a * (x / m), ?_⟩
    rw [show a * x - 1 = m * k from hk]; grind

/-- One state of the reference's walk. -/
structure RgI (a0 m u v x y : Int) : Prop where
  u0 : 0 ≤ u
  u1 : u ≤ m
  v0 : 0 ≤ v
  v1 : v ≤ m
  x0 : 0 ≤ x
  x1 : x < m
  y0 : 0 ≤ y
  y1 : y < m
  c1 : m ∣ a0 * x - u
  c2 : m ∣ a0 * y - v
  g : Int.gcd u v = Int.gcd a0 m
theorem RgI.start {a m : Int} (h0 : 0 ≤ a) (h1 : a < m) : RgI a m a m (1 % m) 0 where
  u0 := h0
  u1 := by omega
  v0 := by omega
  v1 := by omega
  x0 := Int.emod_nonneg _ (by omega)
  x1 := Int.emod_lt_of_pos _ (by omega)
  y0 := by omega
  y1 := by omega
  c1 := by
    have e := Int.mul_ediv_add_emod 1 m
    refine ⟨-(a * (1 / m)), ?_⟩
    generalize 1 / m = q at *
    generalize 1 % m = r at *
    have : a * (m * q + r) = a := by rw [e, Int.mul_one]
    grind
  c2 := ⟨-1, by omega⟩
  g := rfl
theorem RgI.nxt {a0 m u v x y : Int} (h : RgI a0 m u v x y) (hv : v ≠ 0) : RgI a0 m v (u % v) y ((x - u / v % m * y % m) % m) ∧ 0 ≤ u / v ∧ u / v ≤ m ∧ u / v * v ≤ u ∧ 0 ≤ u / v * v ∧ u - u / v * v = u % v := by
  have p : 0 < v := by have := h.v0; omega
  have hm : 0 < m := by have := h.v1; omega
  have q0 : 0 ≤ u / v := Int.ediv_nonneg h.u0 (by omega)
  have e := Int.mul_ediv_add_emod u v
  have r0 := Int.emod_nonneg u hv
  have r1 := Int.emod_lt_of_pos u p
  have hu := h.u0
  have hu1 := h.u1
  have hv1 := h.v1
  have qv : u / v * v ≤ u := by rw [Int.mul_comm]; omega
  have q1 : u / v ≤ m := by
    have : u / v * 1 ≤ u / v * v := Int.mul_le_mul_of_nonneg_left (by omega) q0
    omega
  refine ⟨⟨by omega, by omega, r0, by omega, h.y0, h.y1, Int.emod_nonneg _ (by omega), Int.emod_lt_of_pos _ hm, h.c2, ?_, ?_⟩, q0, q1, qv, Int.mul_nonneg q0 (by omega), by rw [Int.mul_comm]; omega⟩
  · obtain ⟨k, hk⟩ := h.c1
    obtain ⟨j, hj⟩ := h.c2
    have e1 := Int.mul_ediv_add_emod (u / v) m
    have e2 := Int.mul_ediv_add_emod (u / v % m * y) m
    have e3 := Int.mul_ediv_add_emod (x - u / v % m * y % m) m
    generalize (x - u / v % m * y % m) % m = z at *
    generalize (x - u / v % m * y % m) / m = z' at *
    generalize u / v % m * y % m = w at *
    generalize u / v % m * y / m = w' at *
    generalize u / v % m = qm at *
    generalize u / v / m = qm' at *
    generalize u / v = q at *
    generalize u % v = r at *
    refine ⟨k - q * j + a0 * (qm' * y + w' - z'), ?_⟩
    have f1 : z = x - w - m * z' := by omega
    have f2 : w = qm * y - m * w' := by omega
    have f3 : qm = q - m * qm' := by omega
    have f4 : r = u - v * q := by omega
    subst f1; subst f2; subst f3; subst f4
    have g1 : a0 * x = u + m * k := by omega
    have g2 : a0 * y = v + m * j := by omega
    grind
  · rw [← h.g, Int.gcd_comm u v, show u % v = u - v * (u / v) by omega]
    exact Int.gcd_sub_mul_left_right _ _ _
theorem RgI.fin {a0 m u x y : Int} (h : RgI a0 m u 0 x y) (hg : Int.gcd a0 m = 1) : x = invF a0 m := by
  have hu : u = 1 := by
    have := h.g
    have h0 := h.u0
    rw [Int.gcd_zero_right, hg] at this
    omega
  exact (invF_eq ⟨h.x0, h.x1⟩ (hu ▸ h.c1)).symm

theorem EgI.w {a0 m d a x n : Int} (h : EgI a0 m d a x n) (ha : a ≠ 0) (hm : m < 2305843009213693952) :
    IntKind.wrap .i64 (d - IntKind.wrap .i64 (IntKind.wrap .i64 (Int.tdiv d a) * a)) = d % a ∧ IntKind.wrap .i64 (x - IntKind.wrap .i64 (IntKind.wrap .i64 (Int.tdiv d a) * n)) = x - d / a * n ∧ d % a < a ∧ 0 ≤ d % a := by
  obtain ⟨h1, q0, q1, n0, n1, n2, n3, e⟩ := h.nxt ha
  have hd := h.ad; have hm1 := h.d1; have h0 := h.an
  have r0 := h1.an; have r1 := h1.ad
  have qd : d / a ≤ d := by
    have : d / a * 1 ≤ d / a * a := Int.mul_le_mul_of_nonneg_left (by omega) q0
    omega
  have e1 : IntKind.wrap .i64 (Int.tdiv d a) = d / a := by
    rw [Int.tdiv_eq_ediv_of_nonneg (by omega), wI (by omega) (by omega)]
  have e2 : IntKind.wrap .i64 (d / a * a) = d / a * a := wI (by have := Int.mul_nonneg q0 h0; omega) (by omega)
  obtain ⟨u, v, u0, u1, v0, v1, hs, hv⟩ := h1.sg
  rw [e1, e2, wI (n := d - d / a * a) (by omega) (by omega), wI (n := d / a * n) (by omega) (by omega), wI (n := x - d / a * n) (by omega) (by omega)]
  exact ⟨e, rfl, r1, r0⟩
theorem EgW.out {a0 m : Int} {s : Int × Int × Int × Int} (h : EgW a0 m s) (ha : s.2.1 = 0) (hm : m < 2305843009213693952) :
    s.1 = Int.gcd a0 m ∧ (s.2.2.1 < 0 → Int.tmod (IntKind.wrap .i64 (s.2.2.1 + m)) m = egX a0 m) ∧ (¬ s.2.2.1 < 0 → Int.tmod s.2.2.1 m = egX a0 m) ∧ 0 < m := by
  obtain ⟨d, a, x, n⟩ := s
  obtain ⟨h1, h2, h3, h4⟩ := EgW.fin h ha
  have h5 := h.1.d1; have h6 := h.1.ad; have h7 := h.1.an
  dsimp only at *
  refine ⟨h1, fun hx => ?_, fun hx => ?_, by omega⟩
  · rw [wI (by omega) (by omega), tmod_nn (by omega)]
    unfold egX
    rw [h2]
    dsimp only
    rw [if_pos hx]
  · rw [tmod_nn (by omega)]
    unfold egX
    rw [h2]
    dsimp only
    rw [if_neg hx]
theorem RgI.w {a0 m u v x y : Int} (h : RgI a0 m u v x y) (hv : v ≠ 0) (hm : m < 2305843009213693952) :
    IntKind.wrap .i64 (Int.tdiv u v) = u / v ∧ IntKind.wrap .i64 (u - IntKind.wrap .i64 (IntKind.wrap .i64 (Int.tdiv u v) * v)) = u % v ∧ u % v < v ∧ 0 ≤ u % v ∧ 0 < m ∧ 0 ≤ u / v % m ∧ u / v % m < m ∧ IntKind.wrap .i64 (x - u / v % m * y % m) = x - u / v % m * y % m := by
  obtain ⟨h1, q0, q1, n0, n1, e⟩ := h.nxt hv
  have b1 := h.u0; have b2 := h.u1; have b3 := h.v0; have b4 := h.v1; have b5 := h.x0; have b6 := h.x1
  have r0 := Int.emod_nonneg u hv
  have r1 := Int.emod_lt_of_pos u (show 0 < v by omega)
  have m0 : 0 < m := by omega
  have e1 : IntKind.wrap .i64 (Int.tdiv u v) = u / v := by
    rw [Int.tdiv_eq_ediv_of_nonneg (by omega), wI (by omega) (by omega)]
  have c0 := Int.emod_nonneg (u / v % m * y) (show m ≠ 0 by omega)
  have c1 := Int.emod_lt_of_pos (u / v % m * y) m0
  refine ⟨e1, ?_, r1, r0, m0, Int.emod_nonneg _ (by omega), Int.emod_lt_of_pos _ m0, wI (by omega) (by omega)⟩
  rw [e1, wI (n := u / v * v) (by omega) (by omega), wI (by omega) (by omega)]
  exact e
theorem gcd_next (a b : Int) : Int.gcd b (a % b) = Int.gcd a b := by
  rw [Int.gcd_comm a b, Int.emod_def]
  exact Int.gcd_sub_mul_left_right _ _ _
theorem gcd_last {x y : Int} {g : Nat} (hx : 0 ≤ x) (hy : y = 0) (h : Int.gcd x y = g) : x = g := by
  subst hy
  rw [Int.gcd_zero_right] at h
  omega
theorem chk_zero {a m : Int} (h0 : 0 ≤ a) (h1 : a < m) (hm : m < 2305843009213693952) : chkI a a m = 0 := by
  unfold chkI
  first | (simp; omega) | grind
end Go.Sp

namespace Go.Proofs.YtmhipmiacghgeaaGreatDoor
open Go Go.Am Go.Sp
set_option maxRecDepth 100000

theorem euclid_c (a m : Int) (h0 : 0 ≤ a) (h1 : a < m) (hm : m < 2305843009213693952) : Pure Tryz.prog gl0 110 [.int .i64 a, .int .i64 m] (.tup [.int .i64 (Int.gcd a m : Nat), .int .i64 (egX a m)]) := by
  refine pure_sk (own := ow0) Tryz.func110 (by kernel_rfl) mixed (by kernel_rfl)
    (.loop ({ x : Int × Int × Int × Int // (fun (s : Int × Int × Int × Int) => EgW a m s) x }) (fun (x : { x : Int × Int × Int × Int // (fun (s : Int × Int × Int × Int) => EgW a m s) x }) => mkSt [1, 4, 0, 5, 6] [AV.int IntKind.i64 m, AV.int IntKind.i64 (Prod.fst (Subtype.val x)), AV.int IntKind.i64 (Prod.fst (Prod.snd (Subtype.val x))), AV.int IntKind.i64 (Prod.fst (Prod.snd (Prod.snd (Subtype.val x)))), AV.int IntKind.i64 (Prod.snd (Prod.snd (Prod.snd (Subtype.val x))))] []) (fun (x : { x : Int × Int × Int × Int // (fun (s : Int × Int × Int × Int) => EgW a m s) x }) => (fun (s : Int × Int × Int × Int) => Int.toNat (Prod.fst (Prod.snd s))) (Subtype.val x)) (⟨(m, a, (0 : Int), (1 : Int)), EgW.start h0 h1⟩) ([1, 4, 0, 5, 6]) ([]) ([AV.int IntKind.i64 m, AV.int IntKind.i64 m, AV.int IntKind.i64 a, AV.int IntKind.i64 (0 : Int), AV.int IntKind.i64 (1 : Int)]) ([]) (fun x0 => (.br ((Prod.snd (Subtype.val x0)).1 != (0 : Int)) (.req ((Prod.snd (Subtype.val x0)).1 ≠ (0 : Int)) (.again (Again (0) (fun (x : { x : Int × Int × Int × Int // (fun (s : Int × Int × Int × Int) => EgW a m s) x }) => mkSt [1, 4, 0, 5, 6] [AV.int IntKind.i64 m, AV.int IntKind.i64 (Prod.fst (Subtype.val x)), AV.int IntKind.i64 (Prod.fst (Prod.snd (Subtype.val x))), AV.int IntKind.i64 (Prod.fst (Prod.snd (Prod.snd (Subtype.val x)))), AV.int IntKind.i64 (Prod.snd (Prod.snd (Prod.snd (Subtype.val x))))] []) (fun (x : { x : Int × Int × Int × Int // (fun (s : Int × Int × Int × Int) => EgW a m s) x }) => (fun (s : Int × Int × Int × Int) => Int.toNat (Prod.fst (Prod.snd s))) (Subtype.val x)) x0) ([1, 4, 0, 5, 6]) ([]) ([AV.int IntKind.i64 m, AV.int IntKind.i64 (Prod.snd (Subtype.val x0)).1, AV.int IntKind.i64 (IntKind.wrap IntKind.i64 ((Subtype.val x0).1 - IntKind.wrap IntKind.i64 (IntKind.wrap IntKind.i64 (Int.tdiv (Subtype.val x0).1 (Prod.snd (Subtype.val x0)).1) * (Prod.snd (Subtype.val x0)).1))), AV.int IntKind.i64 (Prod.snd (Prod.snd (Subtype.val x0))).2, AV.int IntKind.i64 (IntKind.wrap IntKind.i64 ((Prod.snd (Prod.snd (Subtype.val x0))).1 - IntKind.wrap IntKind.i64 (IntKind.wrap IntKind.i64 (Int.tdiv (Subtype.val x0).1 (Prod.snd (Subtype.val x0)).1) * (Prod.snd (Prod.snd (Subtype.val x0))).2)))]) ([]))) (.br (decide ((Prod.snd (Prod.snd (Subtype.val x0))).1 < (0 : Int))) (.req (m ≠ (0 : Int)) (.out (AV.tup [AV.int IntKind.i64 (Subtype.val x0).1, AV.int IntKind.i64 (Int.tmod (IntKind.wrap IntKind.i64 ((Prod.snd (Prod.snd (Subtype.val x0))).1 + m)) m)]) [] (AV.tup [AV.int IntKind.i64 (↑(Int.gcd a m) : Int), AV.int IntKind.i64 (egX a m)]) [])) (.req (m ≠ (0 : Int)) (.out (AV.tup [AV.int IntKind.i64 (Subtype.val x0).1, AV.int IntKind.i64 (Int.tmod (Prod.snd (Prod.snd (Subtype.val x0))).1 m)]) [] (AV.tup [AV.int IntKind.i64 (↑(Int.gcd a m) : Int), AV.int IntKind.i64 (egX a m)]) []))))))
    (by kernel_rfl) ?_
  --LOOPINFO kept [1] changed [4, 0, 5, 6] objects []
  refine k_loop (fun _ hs => hs.le (by repeat' (first | exact trivial | (first | exact Ent.refl _ | exact inc_ent (by omega) | exact Ent.nil rfl | exact Ent.of_eq (congrArg (AV.osl _ _ _) (by first | omega | (dsimp only; omega))) | exact Ent.of_eq (congrArg (AV.int _) (by first | omega | (dsimp only; omega)))) | refine And.intro ?_ ?_)) (trivial)) (fun x0 => ?_)
  try (have q0 := x0.2; dsimp only at q0)
  have w := fun h => x0.2.1.w h hm
  refine k_br (fun h1 => ?_) (fun h1 => ?_)
  · have g1 := cnd_bne_t h1
    refine k_req (by first | omega | (simp only [Int.toNat_natCast]; omega)) ?_
    exact k_again (⟨(x0.1.2.1, x0.1.1 % x0.1.2.1, x0.1.2.2.2, x0.1.2.2.1 - x0.1.1 / x0.1.2.1 * x0.1.2.2.2), EgW.step x0.2 g1⟩) (fun _ hs => hs.le (⟨by first | exact Ent.refl _ | exact inc_ent (by omega) | exact Ent.nil rfl | exact Ent.of_eq (congrArg (AV.osl _ _ _) (by first | omega | (dsimp only; omega))) | exact Ent.of_eq (congrArg (AV.int _) (by first | omega | (dsimp only; omega))), by first | exact Ent.refl _ | exact inc_ent (by omega) | exact Ent.nil rfl | exact Ent.of_eq (congrArg (AV.osl _ _ _) (by first | omega | (dsimp only; omega))) | exact Ent.of_eq (congrArg (AV.int _) (by first | omega | (dsimp only; omega))), Ent.of_eq (congrArg _ (w g1).1), by first | exact Ent.refl _ | exact inc_ent (by omega) | exact Ent.nil rfl | exact Ent.of_eq (congrArg (AV.osl _ _ _) (by first | omega | (dsimp only; omega))) | exact Ent.of_eq (congrArg (AV.int _) (by first | omega | (dsimp only; omega))), Ent.of_eq (congrArg _ (w g1).2.1), trivial⟩) (trivial)) (by have h := w g1; show Int.toNat (x0.1.1 % x0.1.2.1) < Int.toNat x0.1.2.1; omega)
  · have g1 := cnd_bne_f h1
    refine k_br (fun h4 => ?_) (fun h4 => ?_)
    · have g4 := cnd_dec_t h4
      refine k_req (by first | omega | (simp only [Int.toNat_natCast]; omega)) ?_
      exact k_out (by have o := EgW.out x0.2 (by omega) hm; exact Ent.tup ⟨Ent.of_eq (congrArg _ o.1), Ent.of_eq (congrArg _ (o.2.1 g4)), trivial⟩)
    · have g4 := cnd_dec_f h4
      refine k_req (by first | omega | (simp only [Int.toNat_natCast]; omega)) ?_
      exact k_out (by have o := EgW.out x0.2 (by omega) hm; exact Ent.tup ⟨Ent.of_eq (congrArg _ o.1), Ent.of_eq (congrArg _ (o.2.2.1 (by omega))), trivial⟩)

theorem size_c (a : Int) (h0 : 0 ≤ a) (h1 : a < 2305843009213693952) : Pure Tryz.prog gl0 148 [.int .i64 a] (.int .u64 a) := by
  refine pure_sk (own := ow0) Tryz.func148 (by kernel_rfl) mixed (by kernel_rfl)
    (.br (decide (a < (0 : Int))) (.out (AV.int IntKind.u64 (IntKind.wrap IntKind.u64 (IntKind.wrap IntKind.u64 (IntKind.wrap IntKind.i64 ((0 : Int) - IntKind.wrap IntKind.i64 (a + (1 : Int)))) + (1 : Int)))) [] (AV.int IntKind.u64 a) []) (.out (AV.int IntKind.u64 (IntKind.wrap IntKind.u64 a)) [] (AV.int IntKind.u64 a) []))
    (by kernel_rfl) ?_
  refine k_br (fun h0 => ?_) (fun h0 => ?_)
  · have g0 := cnd_dec_t h0
    exact k_out ((by exfalso; omega))
  · have g0 := cnd_dec_f h0
    exact k_out (Ent.of_eq (congrArg _ (wu64 (by omega) (by omega))))

theorem rgcd_c (a b : Int) (h0 : 0 ≤ a) (h1 : a < 2305843009213693952) (h2 : 0 ≤ b) (h3 : b < 2305843009213693952) : Pure Tryz.prog gl0 115 [.int .i64 a, .int .i64 b] (.int .i64 (Int.gcd a b : Nat)) := by
  refine pure_sk (own := ow0) Tryz.func115 (by kernel_rfl) mixed (by kernel_rfl)
    (.sc (true) 148 ([AV.int IntKind.i64 a]) (AV.int IntKind.u64 a) (.sc (true) 148 ([AV.int IntKind.i64 b]) (AV.int IntKind.u64 b) (.loop ({ x : Int × Int // (fun (s : Int × Int) => ((0 : Int) ≤ Prod.fst s ∧ Prod.fst s < (2305843009213693952 : Int) ∧ (0 : Int) ≤ Prod.snd s ∧ Prod.snd s < (2305843009213693952 : Int)) ∧ Int.gcd (Prod.fst s) (Prod.snd s) = Int.gcd a b) x }) (fun (x : { x : Int × Int // (fun (s : Int × Int) => ((0 : Int) ≤ Prod.fst s ∧ Prod.fst s < (2305843009213693952 : Int) ∧ (0 : Int) ≤ Prod.snd s ∧ Prod.snd s < (2305843009213693952 : Int)) ∧ Int.gcd (Prod.fst s) (Prod.snd s) = Int.gcd a b) x }) => mkSt [5, 6] [AV.int IntKind.u64 (Prod.fst (Subtype.val x)), AV.int IntKind.u64 (Prod.snd (Subtype.val x))] []) (fun (x : { x : Int × Int // (fun (s : Int × Int) => ((0 : Int) ≤ Prod.fst s ∧ Prod.fst s < (2305843009213693952 : Int) ∧ (0 : Int) ≤ Prod.snd s ∧ Prod.snd s < (2305843009213693952 : Int)) ∧ Int.gcd (Prod.fst s) (Prod.snd s) = Int.gcd a b) x }) => (fun (s : Int × Int) => Int.toNat (Prod.snd s)) (Subtype.val x)) (⟨(a, b), ⟨⟨h0, ⟨h1, ⟨h2, h3⟩⟩⟩, rfl⟩⟩) ([5, 6]) ([]) ([AV.int IntKind.u64 a, AV.int IntKind.u64 b]) ([]) (fun x2 => (.br (decide ((Subtype.val x2).2 > (0 : Int))) (.req ((Subtype.val x2).2 ≠ (0 : Int)) (.again (Again (0) (fun (x : { x : Int × Int // (fun (s : Int × Int) => ((0 : Int) ≤ Prod.fst s ∧ Prod.fst s < (2305843009213693952 : Int) ∧ (0 : Int) ≤ Prod.snd s ∧ Prod.snd s < (2305843009213693952 : Int)) ∧ Int.gcd (Prod.fst s) (Prod.snd s) = Int.gcd a b) x }) => mkSt [5, 6] [AV.int IntKind.u64 (Prod.fst (Subtype.val x)), AV.int IntKind.u64 (Prod.snd (Subtype.val x))] []) (fun (x : { x : Int × Int // (fun (s : Int × Int) => ((0 : Int) ≤ Prod.fst s ∧ Prod.fst s < (2305843009213693952 : Int) ∧ (0 : Int) ≤ Prod.snd s ∧ Prod.snd s < (2305843009213693952 : Int)) ∧ Int.gcd (Prod.fst s) (Prod.snd s) = Int.gcd a b) x }) => (fun (s : Int × Int) => Int.toNat (Prod.snd s)) (Subtype.val x)) x2) ([5, 6]) ([]) ([AV.int IntKind.u64 (Subtype.val x2).2, AV.int IntKind.u64 (Int.tmod (Subtype.val x2).1 (Subtype.val x2).2)]) ([]))) (.br ((Subtype.val x2).1 == (9223372036854775808 : Int)) (.out (AV.int IntKind.i64 (0 : Int)) [] (AV.int IntKind.i64 (↑(Int.gcd a b) : Int)) []) (.out (AV.int IntKind.i64 (IntKind.wrap IntKind.i64 (Subtype.val x2).1)) [] (AV.int IntKind.i64 (↑(Int.gcd a b) : Int)) [])))))))
    (by kernel_rfl) ?_
  refine k_sc (size_c (a) (by first | assumption | omega) (by first | assumption | omega)) ?_
  refine k_sc (size_c (b) (by first | assumption | omega) (by first | assumption | omega)) ?_
  --LOOPINFO kept [] changed [5, 6] objects []
  refine k_loop (fun _ hs => hs.le (by repeat' (first | exact trivial | (first | exact Ent.refl _ | exact inc_ent (by omega) | exact Ent.nil rfl | exact Ent.of_eq (congrArg (AV.osl _ _ _) (by first | omega | (dsimp only; omega))) | exact Ent.of_eq (congrArg (AV.int _) (by first | omega | (dsimp only; omega)))) | refine And.intro ?_ ?_)) (trivial)) (fun x2 => ?_)
  try (have q2 := x2.2; dsimp only at q2)
  refine k_br (fun h3 => ?_) (fun h3 => ?_)
  · have g3 := cnd_dec_t h3
    refine k_req (by first | omega | (simp only [Int.toNat_natCast]; omega)) ?_
    exact k_again (⟨(x2.1.2, x2.1.1 % x2.1.2), ⟨⟨by omega, by omega, Int.emod_nonneg _ (by omega), Int.lt_trans (Int.emod_lt_of_pos _ (by omega)) (by omega : x2.1.2 < 2305843009213693952)⟩, (gcd_next _ _).trans q2.2⟩⟩) (fun _ hs => hs.le (⟨by first | exact Ent.refl _ | exact inc_ent (by omega) | exact Ent.nil rfl | exact Ent.of_eq (congrArg (AV.osl _ _ _) (by first | omega | (dsimp only; omega))) | exact Ent.of_eq (congrArg (AV.int _) (by first | omega | (dsimp only; omega))), Ent.of_eq (congrArg _ (tmod_nn (by omega))), trivial⟩) (trivial)) (by have := Int.emod_lt_of_pos x2.1.1 (show 0 < x2.1.2 by omega); have := Int.emod_nonneg x2.1.1 (show x2.1.2 ≠ 0 by omega); show Int.toNat (x2.1.1 % x2.1.2) < Int.toNat x2.1.2; omega)
  · have g3 := cnd_dec_f h3
    refine k_br (fun h6 => ?_) (fun h6 => ?_)
    · have g6 := cnd_beq_t h6
      exact k_out ((by exfalso; omega))
    · have g6 := cnd_beq_f h6
      exact k_out (Ent.of_eq (congrArg _ (by rw [wI (by omega) (by omega)]; exact gcd_last (by omega) (by omega) q2.2)))

theorem rinv_c (a m : Int) (k0 : 0 ≤ a) (k1 : a < m) (hm : m < 2305843009213693952) : Pure Tryz.prog gl0 67 [.int .i64 a, .int .i64 m] (.tup [.int .i64 (invF a m), .bool (decide (Int.gcd a m = 1))]) := by
  refine pure_sk (own := ow0) Tryz.func67 (by kernel_rfl) mixed (by kernel_rfl)
    (.sc (true) 115 ([AV.int IntKind.i64 a, AV.int IntKind.i64 m]) (AV.int IntKind.i64 (↑(Int.gcd a m) : Int)) (.br ((↑(Int.gcd a m) : Int) != (1 : Int)) (.out (AV.tup [AV.int IntKind.i64 (0 : Int), AV.bool false]) [] (AV.tup [AV.int IntKind.i64 (invF a m), AV.bool (decide (Int.gcd a m = (1 : Nat)))]) []) (.req (m ≠ (0 : Int)) (.loop ({ x : Int × Int × Int × Int // (fun (s : Int × Int × Int × Int) => RgI a m (Prod.fst s) (Prod.fst (Prod.snd s)) (Prod.fst (Prod.snd (Prod.snd s))) (Prod.snd (Prod.snd (Prod.snd s)))) x }) (fun (x : { x : Int × Int × Int × Int // (fun (s : Int × Int × Int × Int) => RgI a m (Prod.fst s) (Prod.fst (Prod.snd s)) (Prod.fst (Prod.snd (Prod.snd s))) (Prod.snd (Prod.snd (Prod.snd s)))) x }) => mkSt [1, 6, 7, 8, 9] [AV.int IntKind.i64 m, AV.int IntKind.i64 (Prod.fst (Subtype.val x)), AV.int IntKind.i64 (Prod.fst (Prod.snd (Subtype.val x))), AV.int IntKind.i64 (Prod.fst (Prod.snd (Prod.snd (Subtype.val x)))), AV.int IntKind.i64 (Prod.snd (Prod.snd (Prod.snd (Subtype.val x))))] []) (fun (x : { x : Int × Int × Int × Int // (fun (s : Int × Int × Int × Int) => RgI a m (Prod.fst s) (Prod.fst (Prod.snd s)) (Prod.fst (Prod.snd (Prod.snd s))) (Prod.snd (Prod.snd (Prod.snd s)))) x }) => (fun (s : Int × Int × Int × Int) => Int.toNat (Prod.fst (Prod.snd s))) (Subtype.val x)) (⟨(a, m, (1 : Int) % m, (0 : Int)), RgI.start k0 k1⟩) ([1, 6, 7, 8, 9]) ([]) ([AV.int IntKind.i64 m, AV.int IntKind.i64 a, AV.int IntKind.i64 m, AV.int IntKind.i64 (Int.tmod (1 : Int) m), AV.int IntKind.i64 (0 : Int)]) ([]) (fun x4 => (.br ((Prod.snd (Subtype.val x4)).1 != (0 : Int)) (.req ((Prod.snd (Subtype.val x4)).1 ≠ (0 : Int)) (.sc (true) 116 ([AV.int IntKind.i64 (IntKind.wrap IntKind.i64 (Int.tdiv (Subtype.val x4).1 (Prod.snd (Subtype.val x4)).1)), AV.int IntKind.i64 m]) (AV.int IntKind.i64 (IntKind.wrap IntKind.i64 (Int.tdiv (Subtype.val x4).1 (Prod.snd (Subtype.val x4)).1) % m)) (.sc (true) 68 ([AV.int IntKind.i64 (IntKind.wrap IntKind.i64 (Int.tdiv (Subtype.val x4).1 (Prod.snd (Subtype.val x4)).1) % m), AV.int IntKind.i64 (Prod.snd (Prod.snd (Subtype.val x4))).2, AV.int IntKind.i64 m]) (AV.int IntKind.i64 (IntKind.wrap IntKind.i64 (Int.tdiv (Subtype.val x4).1 (Prod.snd (Subtype.val x4)).1) % m * (Prod.snd (Prod.snd (Subtype.val x4))).2 % m)) (.sc (true) 116 ([AV.int IntKind.i64 (IntKind.wrap IntKind.i64 ((Prod.snd (Prod.snd (Subtype.val x4))).1 - IntKind.wrap IntKind.i64 (Int.tdiv (Subtype.val x4).1 (Prod.snd (Subtype.val x4)).1) % m * (Prod.snd (Prod.snd (Subtype.val x4))).2 % m)), AV.int IntKind.i64 m]) (AV.int IntKind.i64 (IntKind.wrap IntKind.i64 ((Prod.snd (Prod.snd (Subtype.val x4))).1 - IntKind.wrap IntKind.i64 (Int.tdiv (Subtype.val x4).1 (Prod.snd (Subtype.val x4)).1) % m * (Prod.snd (Prod.snd (Subtype.val x4))).2 % m) % m)) (.again (Again (0) (fun (x : { x : Int × Int × Int × Int // (fun (s : Int × Int × Int × Int) => RgI a m (Prod.fst s) (Prod.fst (Prod.snd s)) (Prod.fst (Prod.snd (Prod.snd s))) (Prod.snd (Prod.snd (Prod.snd s)))) x }) => mkSt [1, 6, 7, 8, 9] [AV.int IntKind.i64 m, AV.int IntKind.i64 (Prod.fst (Subtype.val x)), AV.int IntKind.i64 (Prod.fst (Prod.snd (Subtype.val x))), AV.int IntKind.i64 (Prod.fst (Prod.snd (Prod.snd (Subtype.val x)))), AV.int IntKind.i64 (Prod.snd (Prod.snd (Prod.snd (Subtype.val x))))] []) (fun (x : { x : Int × Int × Int × Int // (fun (s : Int × Int × Int × Int) => RgI a m (Prod.fst s) (Prod.fst (Prod.snd s)) (Prod.fst (Prod.snd (Prod.snd s))) (Prod.snd (Prod.snd (Prod.snd s)))) x }) => (fun (s : Int × Int × Int × Int) => Int.toNat (Prod.fst (Prod.snd s))) (Subtype.val x)) x4) ([1, 6, 7, 8, 9]) ([]) ([AV.int IntKind.i64 m, AV.int IntKind.i64 (Prod.snd (Subtype.val x4)).1, AV.int IntKind.i64 (IntKind.wrap IntKind.i64 ((Subtype.val x4).1 - IntKind.wrap IntKind.i64 (IntKind.wrap IntKind.i64 (Int.tdiv (Subtype.val x4).1 (Prod.snd (Subtype.val x4)).1) * (Prod.snd (Subtype.val x4)).1))), AV.int IntKind.i64 (Prod.snd (Prod.snd (Subtype.val x4))).2, AV.int IntKind.i64 (IntKind.wrap IntKind.i64 ((Prod.snd (Prod.snd (Subtype.val x4))).1 - IntKind.wrap IntKind.i64 (Int.tdiv (Subtype.val x4).1 (Prod.snd (Subtype.val x4)).1) % m * (Prod.snd (Prod.snd (Subtype.val x4))).2 % m) % m)]) ([])))))) (.out (AV.tup [AV.int IntKind.i64 (Prod.snd (Prod.snd (Subtype.val x4))).1, AV.bool true]) [] (AV.tup [AV.int IntKind.i64 (invF a m), AV.bool (decide (Int.gcd a m = (1 : Nat)))]) [])))))))
    (by kernel_rfl) ?_
  refine k_sc (rgcd_c (a) (m) (by first | omega | (have h := w g5; rw [h.1]; omega) | (have h := w g5; omega)) (by first | omega | (have h := w g5; rw [h.1]; omega) | (have h := w g5; omega)) (by first | omega | (have h := w g5; rw [h.1]; omega) | (have h := w g5; omega)) (by first | omega | (have h := w g5; rw [h.1]; omega) | (have h := w g5; omega))) ?_
  refine k_br (fun h1 => ?_) (fun h1 => ?_)
  · have g1 := cnd_bne_t h1
    exact k_out (Ent.of_eq (by rw [invF_none (by omega), decide_eq_false (by omega)]))
  · have g1 := cnd_bne_f h1
    refine k_req (by first | omega | (simp only [Int.toNat_natCast]; omega)) ?_
    --LOOPINFO kept [1] changed [6, 7, 8, 9] objects []
    refine k_loop (fun _ hs => hs.le (⟨by first | exact Ent.refl _ | exact inc_ent (by omega) | exact Ent.nil rfl | exact Ent.of_eq (congrArg (AV.osl _ _ _) (by first | omega | (dsimp only; omega))) | exact Ent.of_eq (congrArg (AV.int _) (by first | omega | (dsimp only; omega))), by first | exact Ent.refl _ | exact inc_ent (by omega) | exact Ent.nil rfl | exact Ent.of_eq (congrArg (AV.osl _ _ _) (by first | omega | (dsimp only; omega))) | exact Ent.of_eq (congrArg (AV.int _) (by first | omega | (dsimp only; omega))), by first | exact Ent.refl _ | exact inc_ent (by omega) | exact Ent.nil rfl | exact Ent.of_eq (congrArg (AV.osl _ _ _) (by first | omega | (dsimp only; omega))) | exact Ent.of_eq (congrArg (AV.int _) (by first | omega | (dsimp only; omega))), Ent.of_eq (congrArg _ (tmod_nn (by decide))), by first | exact Ent.refl _ | exact inc_ent (by omega) | exact Ent.nil rfl | exact Ent.of_eq (congrArg (AV.osl _ _ _) (by first | omega | (dsimp only; omega))) | exact Ent.of_eq (congrArg (AV.int _) (by first | omega | (dsimp only; omega))), trivial⟩) (trivial)) (fun x4 => ?_)
    try (have q4 := x4.2; dsimp only at q4)
    have w := fun h => x4.2.w h hm; have b5 := x4.2.x0; have b6 := x4.2.x1; have b7 := x4.2.y0; have b8 := x4.2.y1; have b1 := x4.2.u0; have b2 := x4.2.u1; have b3 := x4.2.v0; have b4 := x4.2.v1
    refine k_br (fun h5 => ?_) (fun h5 => ?_)
    · have g5 := cnd_bne_t h5
      refine k_req (by first | omega | (simp only [Int.toNat_natCast]; omega)) ?_
      refine k_sc (rreduce_c (IntKind.wrap IntKind.i64 (Int.tdiv (Subtype.val x4).1 (Prod.snd (Subtype.val x4)).1)) (m) (by first | omega | (have h := w g5; rw [h.1]; omega) | (have h := w g5; omega)) (by first | omega | (have h := w g5; rw [h.1]; omega) | (have h := w g5; omega))) ?_
      refine k_sc (rmul_c (IntKind.wrap IntKind.i64 (Int.tdiv (Subtype.val x4).1 (Prod.snd (Subtype.val x4)).1) % m) ((Prod.snd (Prod.snd (Subtype.val x4))).2) (m) (by first | omega | (have h := w g5; rw [h.1]; omega) | (have h := w g5; omega)) (by first | omega | (have h := w g5; rw [h.1]; omega) | (have h := w g5; omega)) (by first | omega | (have h := w g5; rw [h.1]; omega) | (have h := w g5; omega)) (by first | omega | (have h := w g5; rw [h.1]; omega) | (have h := w g5; omega)) (by first | omega | (have h := w g5; rw [h.1]; omega) | (have h := w g5; omega))) ?_
      refine k_sc (rreduce_c (IntKind.wrap IntKind.i64 ((Prod.snd (Prod.snd (Subtype.val x4))).1 - IntKind.wrap IntKind.i64 (Int.tdiv (Subtype.val x4).1 (Prod.snd (Subtype.val x4)).1) % m * (Prod.snd (Prod.snd (Subtype.val x4))).2 % m)) (m) (by first | omega | (have h := w g5; rw [h.1]; omega) | (have h := w g5; omega)) (by first | omega | (have h := w g5; rw [h.1]; omega) | (have h := w g5; omega))) ?_
      exact k_again (⟨(x4.1.2.1, x4.1.1 % x4.1.2.1, x4.1.2.2.2, (x4.1.2.2.1 - x4.1.1 / x4.1.2.1 % m * x4.1.2.2.2 % m) % m), (x4.2.nxt g5).1⟩) (fun _ hs => hs.le (⟨by first | exact Ent.refl _ | exact inc_ent (by omega) | exact Ent.nil rfl | exact Ent.of_eq (congrArg (AV.osl _ _ _) (by first | omega | (dsimp only; omega))) | exact Ent.of_eq (congrArg (AV.int _) (by first | omega | (dsimp only; omega))), by first | exact Ent.refl _ | exact inc_ent (by omega) | exact Ent.nil rfl | exact Ent.of_eq (congrArg (AV.osl _ _ _) (by first | omega | (dsimp only; omega))) | exact Ent.of_eq (congrArg (AV.int _) (by first | omega | (dsimp only; omega))), Ent.of_eq (congrArg _ (w g5).2.1), by first | exact Ent.refl _ | exact inc_ent (by omega) | exact Ent.nil rfl | exact Ent.of_eq (congrArg (AV.osl _ _ _) (by first | omega | (dsimp only; omega))) | exact Ent.of_eq (congrArg (AV.int _) (by first | omega | (dsimp only; omega))), Ent.of_eq (congrArg _ (by rw [(w g5).1, (w g5).2.2.2.2.2.2.2])), trivial⟩) (trivial)) (by have h := w g5; show Int.toNat (x4.1.1 % x4.1.2.1) < Int.toNat x4.1.2.1; omega)
    · have g5 := cnd_bne_f h5
      exact k_out (Ent.tup ⟨Ent.of_eq (congrArg _ (by have h := q4; rw [show x4.1.2.1 = 0 by omega] at h; exact h.fin (by omega))), Ent.of_eq (congrArg AV.bool (decide_eq_true (by omega)).symm), trivial⟩)

theorem winv_c (a m : Int) (k0 : 0 ≤ a) (k1 : a < m) (hm : m < 2305843009213693952) : Pure Tryz.prog gl0 60 [.int .i64 a, .int .i64 m] (.tup [.int .i64 (invF a m), .int .i64 (if Int.gcd a m = 1 then 0 else 10)]) := by
  refine pure_sk (own := ow0) Tryz.func60 (by kernel_rfl) mixed (by kernel_rfl)
    (.sc (true) 109 ([AV.int IntKind.i64 a, AV.int IntKind.i64 a, AV.int IntKind.i64 m]) (AV.int IntKind.i64 (chkI a a m)) (.br (chkI a a m != (0 : Int)) (.out (AV.tup [AV.int IntKind.i64 (0 : Int), AV.int IntKind.i64 (chkI a a m)]) [] (AV.tup [AV.int IntKind.i64 (invF a m), AV.int IntKind.i64 (if Int.gcd a m = (1 : Nat) then (0 : Int) else (10 : Int))]) []) (.sc (true) 110 ([AV.int IntKind.i64 a, AV.int IntKind.i64 m]) (AV.tup [AV.int IntKind.i64 (↑(Int.gcd a m) : Int), AV.int IntKind.i64 (egX a m)]) (.br ((↑(Int.gcd a m) : Int) != (1 : Int)) (.out (AV.tup [AV.int IntKind.i64 (0 : Int), AV.int IntKind.i64 (10 : Int)]) [] (AV.tup [AV.int IntKind.i64 (invF a m), AV.int IntKind.i64 (if Int.gcd a m = (1 : Nat) then (0 : Int) else (10 : Int))]) []) (.out (AV.tup [AV.int IntKind.i64 (egX a m), AV.int IntKind.i64 (0 : Int)]) [] (AV.tup [AV.int IntKind.i64 (invF a m), AV.int IntKind.i64 (if Int.gcd a m = (1 : Nat) then (0 : Int) else (10 : Int))]) [])))))
    (by kernel_rfl) ?_
  refine k_sc (check_c (a) (a) (m)) ?_
  refine k_br (fun h1 => ?_) (fun h1 => ?_)
  · have g1 := cnd_bne_t h1
    exact k_out ((by exfalso; exact g1 (chk_zero k0 k1 hm)))
  · have g1 := cnd_bne_f h1
    refine k_sc (euclid_c (a) (m) (by first | assumption | omega) (by first | assumption | omega) (by first | assumption | omega)) ?_
    refine k_br (fun h4 => ?_) (fun h4 => ?_)
    · have g4 := cnd_bne_t h4
      exact k_out (Ent.of_eq (by rw [invF_none (by omega), if_neg (by omega)]))
    · have g4 := cnd_bne_f h4
      exact k_out (Ent.of_eq (by rw [(egX_inv k0 k1).2 (by omega), if_pos (by omega)]))

end Go.Proofs.YtmhipmiacghgeaaGreatDoor

namespace Go.Proofs.YtmhipmiacghgeaaGreatDoor
open Go Go.Am Go.Sp
set_option maxRecDepth 100000

theorem xspan_c (s : Spend) : Pure Tryz.prog gl0 54 [s.av] (.tup [.int .i64 (bif okS s then spanA s.depth s.level s.index else 0), .int .i64 (bif okS s then spanZ s.depth s.level s.index else 0), .bool (okS s)]) := by
  refine pure_sk (own := ow0) Tryz.func54 (by kernel_rfl) mixed (by kernel_rfl)
    (.sc (true) 75 ([AV.int IntKind.i64 s.4, AV.agg [AV.int IntKind.i64 s.11, AV.int IntKind.i64 s.12]]) (AV.tup [AV.int IntKind.i64 (spanA s.4 s.11 s.12), AV.int IntKind.i64 (spanZ s.4 s.11 s.12), AV.int IntKind.i64 (spanE s.4 s.11 s.12)]) (.br (spanE s.4 s.11 s.12 != (0 : Int) || (↑s.16 : Int) != IntKind.wrap IntKind.i64 (spanZ s.4 s.11 s.12 - spanA s.4 s.11 s.12) || decide (s.14 < (0 : Int)) || decide (s.14 > (1099511627776 : Int)) || decide (s.15 < (0 : Int)) || decide (s.15 > (1073741824 : Int))) (.out (AV.tup [AV.int IntKind.i64 (0 : Int), AV.int IntKind.i64 (0 : Int), AV.bool false]) [] (AV.tup [AV.int IntKind.i64 (bif okS s then spanA (Spend.depth s) (Spend.level s) (Spend.index s) else (0 : Int)), AV.int IntKind.i64 (bif okS s then spanZ (Spend.depth s) (Spend.level s) (Spend.index s) else (0 : Int)), AV.bool (okS s)]) []) (.out (AV.tup [AV.int IntKind.i64 (spanA s.4 s.11 s.12), AV.int IntKind.i64 (spanZ s.4 s.11 s.12), AV.bool true]) [] (AV.tup [AV.int IntKind.i64 (bif okS s then spanA (Spend.depth s) (Spend.level s) (Spend.index s) else (0 : Int)), AV.int IntKind.i64 (bif okS s then spanZ (Spend.depth s) (Spend.level s) (Spend.index s) else (0 : Int)), AV.bool (okS s)]) [])))
    (by kernel_rfl) ?_
  refine k_sc (span_c (s.4) (s.11) (s.12)) ?_
  refine k_br (fun h1 => ?_) (fun h1 => ?_)
  · have g1 := (cnd_or_t (cnd_or_t (cnd_or_t (cnd_or_t (cnd_or_t cnd_bne_t cnd_bne_t) cnd_dec_t) cnd_dec_t) cnd_dec_t) cnd_dec_t) h1
    exact k_out (Ent.of_eq (by have e : okS s = false := congrArg not h1; rw [e]; rfl))
  · have g1 := (cnd_or_f (cnd_or_f (cnd_or_f (cnd_or_f (cnd_or_f cnd_bne_f cnd_bne_f) cnd_dec_f) cnd_dec_f) cnd_dec_f) cnd_dec_f) h1
    exact k_out (Ent.of_eq (by have e : okS s = true := congrArg not h1; rw [e]; rfl))

theorem formed1_c (s : Spend) : Pure Tryz.prog gl0 103 [s.av] (.bool (!okS s)) := by
  refine pure_sk (own := ow0) Tryz.func103 (by kernel_rfl) mixed (by kernel_rfl)
    (.sc (true) 54 ([AV.agg (Spend.cells s)]) (AV.tup [AV.int IntKind.i64 (bif okS s then spanA (Spend.depth s) (Spend.level s) (Spend.index s) else (0 : Int)), AV.int IntKind.i64 (bif okS s then spanZ (Spend.depth s) (Spend.level s) (Spend.index s) else (0 : Int)), AV.bool (okS s)]) (.out (AV.bool !okS s) [] (AV.bool !okS s) []))
    (by kernel_rfl) ?_
  refine k_sc ((xspan_c s)) ?_
  exact k_out (Ent.refl _)

theorem indexS_c (S : Nat → Spend) (n : Nat) (hn : n < 9223372036854775808) : Pure Tryz.prog gl0 86 [.isl 80 n (fun i j => atL (S i).cells j), .fn (.func 103) [] []] (.int .i64 (firstI (fun i => !okS (S i)) n 0)) := by
  refine pure_sk (own := ow0) Tryz.func86 (by kernel_rfl) mixed (by kernel_rfl)
    (.loop (Sp.Sub fun (i : Nat) => firstI (fun (i : Nat) => !okS (S i)) n (0 : Nat) = firstI (fun (i : Nat) => !okS (S i)) (n - i) i) (fun (x : Sp.Sub fun (i : Nat) => firstI (fun (i : Nat) => !okS (S i)) n (0 : Nat) = firstI (fun (i : Nat) => !okS (S i)) (n - i) i) => mkSt [0, 1, 6, 7, 8] [AV.isl (80 : Nat) n fun (i j : Nat) => atL (Spend.cells (S i)) j, AV.fn (Fn.func (103 : FuncId)) [] [], AV.isl (80 : Nat) n fun (i j : Nat) => atL (Spend.cells (S i)) j, AV.int IntKind.i64 (↑n : Int), AV.int IntKind.i64 (↑(Subtype.val x) : Int)] []) (fun (i : Sp.Sub fun (i : Nat) => firstI (fun (i : Nat) => !okS (S i)) n (0 : Nat) = firstI (fun (i : Nat) => !okS (S i)) (n - i) i) => n - Subtype.val i) (⟨(0 : Nat), rfl⟩) ([0, 1, 6, 7, 8]) ([]) ([AV.isl (80) n fun (i j : Nat) => atL (Spend.cells (S i)) j, AV.fn (Fn.func (103 : FuncId)) [] [], AV.isl (80) n fun (i j : Nat) => atL (Spend.cells (S i)) j, AV.int IntKind.i64 (↑n : Int), AV.int IntKind.i64 (0 : Int)]) ([]) (fun x0 => (.br (decide ((↑x0.1 : Int) < (↑n : Int))) (.req ((0 : Int) ≤ (↑x0.1 : Int) ∧ (↑x0.1 : Int) < (↑n : Int)) (.sc (true) 103 ([AV.agg (Spend.cells (S (Int.toNat (↑(Subtype.val x0) : Int))))]) (AV.bool !okS (S (Int.toNat (↑(Subtype.val x0) : Int)))) (.br (!okS (S (Int.toNat (↑x0.1 : Int)))) (.out (AV.int IntKind.i64 (↑x0.1 : Int)) [] (AV.int IntKind.i64 (firstI (fun (i : Nat) => !okS (S i)) n (0 : Nat))) []) (.again (Again (0) (fun (x : Sp.Sub fun (i : Nat) => firstI (fun (i : Nat) => !okS (S i)) n (0 : Nat) = firstI (fun (i : Nat) => !okS (S i)) (n - i) i) => mkSt [0, 1, 6, 7, 8] [AV.isl (80 : Nat) n fun (i j : Nat) => atL (Spend.cells (S i)) j, AV.fn (Fn.func (103 : FuncId)) [] [], AV.isl (80 : Nat) n fun (i j : Nat) => atL (Spend.cells (S i)) j, AV.int IntKind.i64 (↑n : Int), AV.int IntKind.i64 (↑(Subtype.val x) : Int)] []) (fun (i : Sp.Sub fun (i : Nat) => firstI (fun (i : Nat) => !okS (S i)) n (0 : Nat) = firstI (fun (i : Nat) => !okS (S i)) (n - i) i) => n - Subtype.val i) x0) ([0, 1, 6, 7, 8]) ([]) ([AV.isl (80) n fun (i j : Nat) => atL (Spend.cells (S i)) j, AV.fn (Fn.func (103 : FuncId)) [] [], AV.isl (80) n fun (i j : Nat) => atL (Spend.cells (S i)) j, AV.int IntKind.i64 (↑n : Int), AV.int IntKind.i64 (IntKind.wrap IntKind.i64 ((↑x0.1 : Int) + (1 : Int)))]) ([]))))) (.out (AV.int IntKind.i64 (-1 : Int)) [] (AV.int IntKind.i64 (firstI (fun (i : Nat) => !okS (S i)) n (0 : Nat))) []))))
    (by kernel_rfl) ?_
  refine k_loop (fun _ hs => hs.le (by repeat' (first | exact trivial | (first | exact Ent.refl _ | exact inc_ent (by omega) | exact Ent.nil rfl | exact Ent.of_eq (congrArg (AV.osl _ _ _) (by first | omega | (dsimp only; omega))) | exact Ent.of_eq (congrArg (AV.int _) (by first | omega | (dsimp only; omega)))) | refine And.intro ?_ ?_)) (trivial)) (fun x0 => ?_)
  try (have q0 := x0.2; dsimp only at q0)
  refine k_br (fun h1 => ?_) (fun h1 => ?_)
  · have g1 := cnd_dec_t h1
    refine k_req (by have := of_decide_eq_true h1; omega) ?_
    refine k_sc ((formed1_c (S (Int.toNat (↑(Subtype.val x0) : Int))))) ?_
    refine k_br (fun h4 => ?_) (fun h4 => ?_)
    · have g4 := (cnd_not_t cnd_id_f) h4
      try simp only [Int.toNat_natCast] at g4
      exact k_out (Ent.of_eq (congrArg _ (first_hit x0.2 (show x0.1 < n by have := of_decide_eq_true h1; omega) (by simpa using h4))))
    · have g4 := (cnd_not_f cnd_id_t) h4
      try simp only [Int.toNat_natCast] at g4
      exact k_again (⟨x0.1 + 1, first_next x0.2 (show x0.1 < n by have := of_decide_eq_true h1; omega) (by simpa using h4)⟩) (fun _ hs => hs.le (⟨Ent.refl _, Ent.refl _, Ent.refl _, Ent.refl _, inc_ent (by have := of_decide_eq_true h1; omega), trivial⟩) (trivial)) (by have := of_decide_eq_true h1; show n - (x0.1 + 1) < n - x0.1; omega)
  · have g1 := cnd_dec_f h1
    exact k_out (Ent.of_eq (congrArg _ (first_miss x0.2 (by have := of_decide_eq_false h1; omega))))

theorem find1_c (l0 l1 l2 b : Int) : Pure Tryz.prog gl0 106 [.agg [.int .i64 l0, .int .i64 l1, .int .i64 l2], .ipt 1 (atL [.int .i64 b])] (.bool (l0 == b)) := by
  refine pure_sk (own := ow0) Tryz.func106 (by kernel_rfl) mixed (by kernel_rfl)
    (.out (AV.bool (l0 == b)) [] (AV.bool (l0 == b)) [])
    (by kernel_rfl) ?_
  exact k_out (Ent.refl _)

theorem indexL_c (f : Nat → Nat → Int) (n : Nat) (b : Int) (hn : n < 9223372036854775808) : Pure Tryz.prog gl0 105 [lvs n f, .fn (.func 106) [] [.ipt 1 (atL [.int .i64 b])]] (.int .i64 (firstI (fun i => f i 0 == b) n 0)) := by
  refine pure_sk (own := ow0) Tryz.func105 (by kernel_rfl) mixed (by kernel_rfl)
    (.loop (Sp.Sub fun (i : Nat) => firstI (fun (i : Nat) => f i (0 : Nat) == b) n (0 : Nat) = firstI (fun (i : Nat) => f i (0 : Nat) == b) (n - i) i) (fun (x : Sp.Sub fun (i : Nat) => firstI (fun (i : Nat) => f i (0 : Nat) == b) n (0 : Nat) = firstI (fun (i : Nat) => f i (0 : Nat) == b) (n - i) i) => mkSt [0, 1, 6, 7, 8] [lvs n f, AV.fn (Fn.func (106 : FuncId)) [] [AV.ipt (1 : Nat) (atL [AV.int IntKind.i64 b])], lvs n f, AV.int IntKind.i64 (↑n : Int), AV.int IntKind.i64 (↑(Subtype.val x) : Int)] []) (fun (i : Sp.Sub fun (i : Nat) => firstI (fun (i : Nat) => f i (0 : Nat) == b) n (0 : Nat) = firstI (fun (i : Nat) => f i (0 : Nat) == b) (n - i) i) => n - Subtype.val i) (⟨(0 : Nat), rfl⟩) ([0, 1, 6, 7, 8]) ([]) ([AV.isl (3) n fun (i j : Nat) => AV.int IntKind.i64 (f i j), AV.fn (Fn.func (106 : FuncId)) [] [AV.ipt (1) (atL [AV.int IntKind.i64 b])], AV.isl (3) n fun (i j : Nat) => AV.int IntKind.i64 (f i j), AV.int IntKind.i64 (↑n : Int), AV.int IntKind.i64 (0 : Int)]) ([]) (fun x0 => (.br (decide ((↑x0.1 : Int) < (↑n : Int))) (.req ((0 : Int) ≤ (↑x0.1 : Int) ∧ (↑x0.1 : Int) < (↑n : Int)) (.sc (true) 106 ([AV.agg [AV.int IntKind.i64 (f (Int.toNat (↑x0.1 : Int)) (0)), AV.int IntKind.i64 (f (Int.toNat (↑x0.1 : Int)) (1)), AV.int IntKind.i64 (f (Int.toNat (↑x0.1 : Int)) (2))], AV.ipt (1) (atL [AV.int IntKind.i64 b])]) (AV.bool (f (Int.toNat (↑x0.1 : Int)) (0) == b)) (.br (f (Int.toNat (↑x0.1 : Int)) (0) == b) (.out (AV.int IntKind.i64 (↑x0.1 : Int)) [] (AV.int IntKind.i64 (firstI (fun (i : Nat) => f i (0 : Nat) == b) n (0 : Nat))) []) (.again (Again (0) (fun (x : Sp.Sub fun (i : Nat) => firstI (fun (i : Nat) => f i (0 : Nat) == b) n (0 : Nat) = firstI (fun (i : Nat) => f i (0 : Nat) == b) (n - i) i) => mkSt [0, 1, 6, 7, 8] [lvs n f, AV.fn (Fn.func (106 : FuncId)) [] [AV.ipt (1 : Nat) (atL [AV.int IntKind.i64 b])], lvs n f, AV.int IntKind.i64 (↑n : Int), AV.int IntKind.i64 (↑(Subtype.val x) : Int)] []) (fun (i : Sp.Sub fun (i : Nat) => firstI (fun (i : Nat) => f i (0 : Nat) == b) n (0 : Nat) = firstI (fun (i : Nat) => f i (0 : Nat) == b) (n - i) i) => n - Subtype.val i) x0) ([0, 1, 6, 7, 8]) ([]) ([AV.isl (3) n fun (i j : Nat) => AV.int IntKind.i64 (f i j), AV.fn (Fn.func (106 : FuncId)) [] [AV.ipt (1) (atL [AV.int IntKind.i64 b])], AV.isl (3) n fun (i j : Nat) => AV.int IntKind.i64 (f i j), AV.int IntKind.i64 (↑n : Int), AV.int IntKind.i64 (IntKind.wrap IntKind.i64 ((↑x0.1 : Int) + (1 : Int)))]) ([]))))) (.out (AV.int IntKind.i64 (-1 : Int)) [] (AV.int IntKind.i64 (firstI (fun (i : Nat) => f i (0 : Nat) == b) n (0 : Nat))) []))))
    (by kernel_rfl) ?_
  refine k_loop (fun _ hs => hs.le (by repeat' (first | exact trivial | (first | exact Ent.refl _ | exact inc_ent (by omega) | exact Ent.nil rfl | exact Ent.of_eq (congrArg (AV.osl _ _ _) (by first | omega | (dsimp only; omega))) | exact Ent.of_eq (congrArg (AV.int _) (by first | omega | (dsimp only; omega)))) | refine And.intro ?_ ?_)) (trivial)) (fun x0 => ?_)
  try (have q0 := x0.2; dsimp only at q0)
  refine k_br (fun h1 => ?_) (fun h1 => ?_)
  · have g1 := cnd_dec_t h1
    refine k_req (by have := of_decide_eq_true h1; omega) ?_
    refine k_sc (find1_c (f (Int.toNat (↑x0.1 : Int)) (0)) (f (Int.toNat (↑x0.1 : Int)) (1)) (f (Int.toNat (↑x0.1 : Int)) (2)) (b)) ?_
    refine k_br (fun h4 => ?_) (fun h4 => ?_)
    · have g4 := cnd_beq_t h4
      try simp only [Int.toNat_natCast] at g4
      exact k_out (Ent.of_eq (congrArg _ (first_hit x0.2 (show x0.1 < n by have := of_decide_eq_true h1; omega) (by simpa using h4))))
    · have g4 := cnd_beq_f h4
      try simp only [Int.toNat_natCast] at g4
      exact k_again (⟨x0.1 + 1, first_next x0.2 (show x0.1 < n by have := of_decide_eq_true h1; omega) (by simpa using h4)⟩) (fun _ hs => hs.le (⟨Ent.refl _, Ent.refl _, Ent.refl _, Ent.refl _, inc_ent (by have := of_decide_eq_true h1; omega), trivial⟩) (trivial)) (by have := of_decide_eq_true h1; show n - (x0.1 + 1) < n - x0.1; omega)
  · have g1 := cnd_dec_f h1
    exact k_out (Ent.of_eq (congrArg _ (first_miss x0.2 (by have := of_decide_eq_false h1; omega))))

theorem find_c (s : Spend) (b : Int) (hn : s.nl < 9223372036854775808) : Pure Tryz.prog gl0 57 [s.av, .int .i64 b] (.int .i64 (firstI (fun i => s.lf i 0 == b) s.nl 0)) := by
  refine pure_sk (own := ow0) Tryz.func57 (by kernel_rfl) mixed (by kernel_rfl)
    (.sc (true) 105 ([AV.isl (3) s.16 fun (i j : Nat) => AV.int IntKind.i64 (s.17 i j), AV.fn (Fn.func (106 : Nat)) [] [AV.ipt (1) fun (k : Nat) => atL [AV.int IntKind.i64 b] k]]) (AV.int IntKind.i64 (firstI (fun (i : Nat) => s.17 i (0 : Nat) == b) s.16 (0 : Nat))) (.out (AV.int IntKind.i64 (firstI (fun (i : Nat) => s.17 i (0) == b) s.16 (0))) [] (AV.int IntKind.i64 (firstI (fun (i : Nat) => Spend.lf s i (0 : Nat) == b) (Spend.nl s) (0 : Nat))) []))
    (by kernel_rfl) ?_
  refine k_sc (indexL_c (s.17) (s.16) (b) (by first | assumption | omega)) ?_
  exact k_out (Ent.refl _)

theorem containsS_c (S : Nat → Spend) (n : Nat) (hn : n < 9223372036854775808) : Pure Tryz.prog gl0 33 [.isl 80 n (fun i j => atL (S i).cells j), .fn (.func 103) [] []] (.bool (decide (firstI (fun i => !okS (S i)) n 0 ≥ 0))) := by
  refine pure_sk (own := ow0) Tryz.func33 (by kernel_rfl) mixed (by kernel_rfl)
    (.sc (true) 86 ([AV.isl (80) n fun (i j : Nat) => atL (Spend.cells (S i)) j, AV.fn (Fn.func (103 : FuncId)) [] []]) (AV.int IntKind.i64 (firstI (fun (i : Nat) => !okS (S i)) n (0 : Nat))) (.out (AV.bool (decide (firstI (fun (i : Nat) => !okS (S i)) n (0) ≥ (0 : Int)))) [] (AV.bool (decide (firstI (fun (i : Nat) => !okS (S i)) n (0 : Nat) ≥ (0 : Int)))) []))
    (by kernel_rfl) ?_
  refine k_sc ((indexS_c S n hn)) ?_
  exact k_out (Ent.refl _)

theorem formed_c (S : Nat → Spend) (n : Nat) (hn : n < 9223372036854775808) : Pure Tryz.prog gl0 53 [.isl 80 n (fun i j => atL (S i).cells j)] (.bool (!decide (firstI (fun i => !okS (S i)) n 0 ≥ 0))) := by
  refine pure_sk (own := ow0) Tryz.func53 (by kernel_rfl) mixed (by kernel_rfl)
    (.sc (true) 33 ([AV.isl (80) n fun (i j : Nat) => atL (Spend.cells (S i)) j, AV.fn (Fn.func (103 : Nat)) [] []]) (AV.bool (decide (firstI (fun (i : Nat) => !okS (S i)) n (0 : Nat) ≥ (0 : Int)))) (.out (AV.bool !decide (firstI (fun (i : Nat) => !okS (S i)) n (0) ≥ (0 : Int))) [] (AV.bool !decide (firstI (fun (i : Nat) => !okS (S i)) n (0 : Nat) ≥ (0 : Int))) []))
    (by kernel_rfl) ?_
  refine k_sc ((containsS_c S n hn)) ?_
  exact k_out (Ent.refl _)

theorem rformed_c (s : Spend) : Pure Tryz.prog gl0 62 [s.av] (.bool (okS s)) := by
  refine pure_sk (own := ow0) Tryz.func62 (by kernel_rfl) mixed (by kernel_rfl)
    (.sc ((decide (s.4 < (0 : Int)) || decide (s.4 > (5 : Int))) == false) 112 ([AV.int IntKind.i64 s.4, AV.agg [AV.int IntKind.i64 s.11, AV.int IntKind.i64 s.12]]) (AV.bool (nodeB s.4 s.11 s.12)) (.sc ((decide (s.4 < (0 : Int)) || decide (s.4 > (5 : Int)) || !nodeB s.4 s.11 s.12) == false) 113 ([AV.agg (u8c s.13 ++ [AV.int IntKind.i64 s.14, AV.int IntKind.i64 s.15])]) (AV.bool (ctxB (Cxt.time { payee := Spend.payee s, time := Spend.time s, number := Spend.number s }) (Cxt.number { payee := Spend.payee s, time := Spend.time s, number := Spend.number s }))) (.br (decide (s.4 < (0 : Int)) || decide (s.4 > (5 : Int)) || !nodeB s.4 s.11 s.12 || !ctxB s.14 s.15) (.out (AV.bool false) [] (AV.bool (okS s)) []) (.sc (true) 79 ([AV.int IntKind.i64 s.4, AV.agg [AV.int IntKind.i64 s.11, AV.int IntKind.i64 s.12]]) (AV.tup [AV.int IntKind.i64 (spanA s.4 s.11 s.12), AV.int IntKind.i64 (spanZ s.4 s.11 s.12)]) (.out (AV.bool ((↑s.16 : Int) == IntKind.wrap IntKind.i64 (spanZ s.4 s.11 s.12 - spanA s.4 s.11 s.12))) [] (AV.bool (okS s)) [])))))
    (by kernel_rfl) ?_
  refine k_scg (fun h0 => rnode_c (s.4) (s.11) (s.12)) ?_
  refine k_scg (fun h1 => (rctx_c { payee := Spend.payee s, time := Spend.time s, number := Spend.number s })) ?_
  refine k_br (fun h2 => ?_) (fun h2 => ?_)
  · have g2 := (cnd_or_t (cnd_or_t (cnd_or_t cnd_dec_t cnd_dec_t) (cnd_not_t cnd_id_f)) (cnd_not_t cnd_id_f)) h2
    exact k_out (Ent.of_eq (by rw [okS_no h2]))
  · have g2 := (cnd_or_f (cnd_or_f (cnd_or_f cnd_dec_f cnd_dec_f) (cnd_not_f cnd_id_t)) (cnd_not_f cnd_id_t)) h2
    refine k_sc (rspan_c (s.4) (s.11) (s.12) ((okS_yes h2).1)) ?_
    exact k_out (Ent.of_eq (congrArg _ (okS_yes h2).2))

theorem shared_c (a b : Spend) (hn : a.nl ≤ 1000) (hb : b.nl ≤ 1000) : Pure Tryz.prog gl0 56 [a.av, b.av] (il .i64 (sharedL a b)) := by
  refine pure_sk (own := ow0) Tryz.func56 (by kernel_rfl) mixed (by kernel_rfl)
    (.br (a.5 != b.5) (.out (AV.nsl) [] (il IntKind.i64 (sharedL a b)) []) (.sc (true) 54 ([AV.agg (Spend.cells a)]) (AV.tup [AV.int IntKind.i64 (bif okS a then spanA (Spend.depth a) (Spend.level a) (Spend.index a) else (0 : Int)), AV.int IntKind.i64 (bif okS a then spanZ (Spend.depth a) (Spend.level a) (Spend.index a) else (0 : Int)), AV.bool (okS a)]) (.loop (Sp.Sub fun (x : Nat) => x ≤ Spend.nl a) (fun (x : Sp.Sub fun (x : Nat) => x ≤ Spend.nl a) => mkSt [3, 5, 8, 25, 26, 27] [AV.own (0 : Nat) (80 : Nat) (0 : Nat) (0 : Nat) (80 : Nat), AV.int IntKind.i64 (fromS a), AV.osl (1 : Nat) (1 : Nat) (0 : Nat) (List.length (sharedN a b (Subtype.val x))), lvs (Spend.nl a) (Spend.lf a), AV.int IntKind.i64 (↑(Spend.nl a) : Int), AV.int IntKind.i64 (↑(Subtype.val x) : Int)] [some { es := (80 : Nat), n := (1 : Nat), mu := true, f := Rep.lst [Spend.cells b] }, ilO IntKind.i64 (sharedN a b (Subtype.val x))]) (fun (x : Sp.Sub fun (x : Nat) => x ≤ Spend.nl a) => Spend.nl a - Subtype.val x) (⟨(0 : Nat), Nat.zero_le (Spend.nl a)⟩) ([3, 5, 8, 25, 26, 27]) ([8, 449]) ([AV.own (0) (80) (0) (0) (80), AV.int IntKind.i64 (bif okS a then spanA a.4 a.11 a.12 else (0 : Int)), AV.nsl, AV.isl (3) a.16 fun (i j : Nat) => AV.int IntKind.i64 (a.17 i j), AV.int IntKind.i64 (↑a.16 : Int), AV.int IntKind.i64 (0 : Int)]) ([some { es := 80, n := 1, mu := true, f := Rep.lst [Spend.cells b] }, some { es := 1, n := 0, mu := true, f := Rep.lst [] }]) (fun x3 => (.br (decide ((↑x3.1 : Int) < (↑a.16 : Int))) (.req ((0 : Int) ≤ (↑x3.1 : Int) ∧ (↑x3.1 : Int) < (↑a.16 : Int)) (.sc (true) 57 ([AV.agg (Spend.cells b), AV.int IntKind.i64 (a.17 (Int.toNat (↑x3.1 : Int)) (0))]) (AV.int IntKind.i64 (firstI (fun (i : Nat) => Spend.lf b i (0 : Nat) == a.17 (Int.toNat (↑x3.1 : Int)) (0)) (Spend.nl b) (0 : Nat))) (.br (decide (firstI (fun (i : Nat) => b.17 i (0) == a.17 (Int.toNat (↑x3.1 : Int)) (0)) b.16 (0) ≥ (0 : Int))) (.req ((List.length (sharedN a b (Subtype.val x3)) + 1) * 8 ≤ 140737488355328) (.again (Again (0) (fun (x : Sp.Sub fun (x : Nat) => x ≤ Spend.nl a) => mkSt [3, 5, 8, 25, 26, 27] [AV.own (0 : Nat) (80 : Nat) (0 : Nat) (0 : Nat) (80 : Nat), AV.int IntKind.i64 (fromS a), AV.osl (1 : Nat) (1 : Nat) (0 : Nat) (List.length (sharedN a b (Subtype.val x))), lvs (Spend.nl a) (Spend.lf a), AV.int IntKind.i64 (↑(Spend.nl a) : Int), AV.int IntKind.i64 (↑(Subtype.val x) : Int)] [some { es := (80 : Nat), n := (1 : Nat), mu := true, f := Rep.lst [Spend.cells b] }, ilO IntKind.i64 (sharedN a b (Subtype.val x))]) (fun (x : Sp.Sub fun (x : Nat) => x ≤ Spend.nl a) => Spend.nl a - Subtype.val x) x3) ([3, 5, 8, 25, 26, 27]) ([0, 138]) ([AV.own (0) (80) (0) (0) (80), AV.int IntKind.i64 (fromS a), AV.osl (1) (1) (0) (List.length (sharedN a b (Subtype.val x3)) + 1), AV.isl (3) a.16 fun (i j : Nat) => AV.int IntKind.i64 (a.17 i j), AV.int IntKind.i64 (↑a.16 : Int), AV.int IntKind.i64 (IntKind.wrap IntKind.i64 ((↑x3.1 : Int) + (1 : Int)))]) ([some { es := 80, n := 1, mu := true, f := Rep.lst [Spend.cells b] }, some { es := 1, n := List.length (sharedN a b (Subtype.val x3)) + 1, mu := true, f := Rep.fn fun (i j : Nat) => AV.int IntKind.i64 (bif Nat.blt i (List.length (sharedN a b (Subtype.val x3))) then List.getD (sharedN a b (Subtype.val x3)) i (0 : Int) else intOfAV (atL [AV.int IntKind.i64 (IntKind.wrap IntKind.i64 (fromS a + (↑(Subtype.val x3) : Int)))] j)) }]))) (.again (Again (0) (fun (x : Sp.Sub fun (x : Nat) => x ≤ Spend.nl a) => mkSt [3, 5, 8, 25, 26, 27] [AV.own (0 : Nat) (80 : Nat) (0 : Nat) (0 : Nat) (80 : Nat), AV.int IntKind.i64 (fromS a), AV.osl (1 : Nat) (1 : Nat) (0 : Nat) (List.length (sharedN a b (Subtype.val x))), lvs (Spend.nl a) (Spend.lf a), AV.int IntKind.i64 (↑(Spend.nl a) : Int), AV.int IntKind.i64 (↑(Subtype.val x) : Int)] [some { es := (80 : Nat), n := (1 : Nat), mu := true, f := Rep.lst [Spend.cells b] }, ilO IntKind.i64 (sharedN a b (Subtype.val x))]) (fun (x : Sp.Sub fun (x : Nat) => x ≤ Spend.nl a) => Spend.nl a - Subtype.val x) x3) ([3, 5, 8, 25, 26, 27]) ([0, 1]) ([AV.own (0) (80) (0) (0) (80), AV.int IntKind.i64 (fromS a), AV.osl (1) (1) (0) (List.length (sharedN a b (Subtype.val x3))), AV.isl (3) a.16 fun (i j : Nat) => AV.int IntKind.i64 (a.17 i j), AV.int IntKind.i64 (↑a.16 : Int), AV.int IntKind.i64 (IntKind.wrap IntKind.i64 ((↑x3.1 : Int) + (1 : Int)))]) ([some { es := 80, n := 1, mu := true, f := Rep.lst [Spend.cells b] }, some { es := 1, n := List.length (sharedN a b (Subtype.val x3)), mu := true, f := Rep.fn fun (i j : Nat) => AV.int IntKind.i64 (List.getD (sharedN a b (Subtype.val x3)) i (0 : Int)) }]))))) (.out (AV.isl (1) (List.length (sharedN a b (Subtype.val x3))) fun (r k : Nat) => AV.int IntKind.i64 (List.getD (sharedN a b (Subtype.val x3)) (r + 0) (0 : Int))) [] (il IntKind.i64 (sharedL a b)) []))))))
    (by kernel_rfl) ?_
  refine k_br (fun h0 => ?_) (fun h0 => ?_)
  · have g0 := cnd_bne_t h0
    exact k_out (Ent.nilL (shared_none h0))
  · have g0 := cnd_bne_f h0
    refine k_sc ((xspan_c a)) ?_
    refine k_loop (fun _ hs => hs.le (by repeat' (first | exact trivial | (first | exact Ent.refl _ | exact inc_ent (by omega) | exact Ent.nil rfl | exact Ent.of_eq (congrArg (AV.osl _ _ _) (by first | omega | (dsimp only; omega))) | exact Ent.of_eq (congrArg (AV.int _) (by first | omega | (dsimp only; omega)))) | refine And.intro ?_ ?_)) (by repeat' (first | exact trivial | (first | exact ObEnt.refl _ | exact ObEnt.junk | exact ObEnt.zero | exact ObEnt.push rfl rfl | exact ObEnt.pushRow rfl | exact ObEnt.len (by omega) | exact ObEnt.row (by repeat' (first | exact trivial | (first | exact Ent.refl _ | exact inc_ent (by omega) | exact Ent.nil rfl | exact Ent.of_eq (congrArg (AV.osl _ _ _) (by first | omega | (dsimp only; omega))) | exact Ent.of_eq (congrArg (AV.int _) (by first | omega | (dsimp only; omega)))) | refine And.intro ?_ ?_))) | refine And.intro ?_ ?_))) (fun x3 => ?_)
    try (have q3 := x3.2; dsimp only at q3)
    refine k_br (fun h4 => ?_) (fun h4 => ?_)
    · have g4 := cnd_dec_t h4
      refine k_req (by first | omega | (simp only [Int.toNat_natCast]; omega)) ?_
      refine k_sc ((find_c b) (a.17 (Int.toNat (↑x3.1 : Int)) (0)) (by omega)) ?_
      refine k_br (fun h7 => ?_) (fun h7 => ?_)
      · have g7 := cnd_dec_t h7
        try simp only [Int.toNat_natCast] at g7
        refine k_req (by have := sharedN_len a b x3.1; omega) ?_
        exact k_again (⟨x3.1 + 1, by have := of_decide_eq_true h4; omega⟩) (fun _ hs => hs.le (⟨Ent.refl _, Ent.refl _, Ent.of_eq (congrArg (AV.osl 1 1 0) (sharedN_lt (x := x3.1) h7)), Ent.refl _, Ent.refl _, inc_ent (by omega), trivial⟩) (⟨.refl _, .pushL (sharedN_w (x := x3.1) (by omega) h7), trivial⟩)) (by first | omega | (dsimp only; omega) | (simp; omega))
      · have g7 := cnd_dec_f h7
        try simp only [Int.toNat_natCast] at g7
        exact k_again (⟨x3.1 + 1, by have := of_decide_eq_true h4; omega⟩) (fun _ hs => hs.le (⟨Ent.refl _, Ent.refl _, Ent.of_eq (congrArg (AV.osl 1 1 0) (sharedN_lf (x := x3.1) h7)), Ent.refl _, Ent.refl _, inc_ent (by omega), trivial⟩) (⟨.refl _, shared_same (x := x3.1) h7, trivial⟩)) (by first | omega | (dsimp only; omega) | (simp; omega))
    · have g4 := cnd_dec_f h4
      exact k_out (Ent.ilL (shared_end h0 (by have := of_decide_eq_false h4; omega)))

theorem formed2_c (a b : Spend) : Pure Tryz.prog gl0 53 [.isl 80 2 fun r k => atL (List.getD [a.cells, b.cells] r []) k] (.bool (okS a && okS b)) := by
  refine Pure.ent (Pure.via (formed_c (fun i => bif Nat.beq i 0 then a else b) 2 (by omega)) ?_) (Ent.of_eq (congrArg _ (formed2_m a b)))
  exact ⟨Ent.two (g := fun i => Spend.cells (bif Nat.beq i 0 then a else b)) rfl rfl, trivial⟩

theorem xshared_c (a b : Spend) (hn : a.nl ≤ 1000) (hb : b.nl ≤ 1000) : Pure Tryz.prog gl0 50 [a.av, b.av] (.tup [il .i64 (bif okS a && okS b then sharedL a b else []), .int .i64 (bif okS a && okS b then 0 else 1)]) := by
  refine pure_sk (own := ow0) Tryz.func50 (by kernel_rfl) mixed (by kernel_rfl)
    (.sc (true) 53 ([AV.isl (80) (2) fun (r k : Nat) => atL (List.getD [Spend.cells a, Spend.cells b] (r + 0) []) k]) (AV.bool (okS a && okS b)) (.br (!(okS a && okS b)) (.out (AV.tup [AV.nsl, AV.int IntKind.i64 (1 : Int)]) [] (AV.tup [il IntKind.i64 (bif okS a && okS b then sharedL a b else []), AV.int IntKind.i64 (bif okS a && okS b then (0 : Int) else (1 : Int))]) []) (.dc (true) 56 ([AV.agg (Spend.cells a), AV.agg (Spend.cells b)]) (il IntKind.i64 (sharedL a b)) (.out (AV.tup [AV.isl (1) (List.length (sharedL a b)) fun (i x : Nat) => AV.int IntKind.i64 (List.getD (sharedL a b) i (0 : Int)), AV.int IntKind.i64 (0 : Int)]) [] (AV.tup [il IntKind.i64 (bif okS a && okS b then sharedL a b else []), AV.int IntKind.i64 (bif okS a && okS b then (0 : Int) else (1 : Int))]) []))))
    (by kernel_rfl) ?_
  refine k_sc ((formed2_c a b)) ?_
  refine k_br (fun h1 => ?_) (fun h1 => ?_)
  · have g1 := (cnd_not_t (cnd_and_f cnd_id_f cnd_id_f)) h1
    exact k_out (Ent.tup ⟨Ent.nilL (bif_f (not_both h1)), Ent.of_eq (congrArg _ (bif_f (not_both h1)).symm), trivial⟩)
  · have g1 := (cnd_not_f (cnd_and_t cnd_id_t cnd_id_t)) h1
    refine k_dc (shared_c (a) (b) (by first | assumption | omega) (by first | assumption | omega)) ?_
    exact k_out (Ent.tup ⟨Ent.ilL (bif_t (both h1)).symm, Ent.of_eq (congrArg _ (bif_t (both h1)).symm), trivial⟩)

theorem rogueformed_c (s : Spend) (hn : s.nl ≤ 1000) : Pure Tryz.prog gl0 71 [s.av] (.bool (okS s)) := by
  refine pure_sk (own := ow0) Tryz.func71 (by kernel_rfl) mixed (by kernel_rfl)
    (.dc (true) 50 ([AV.agg (Spend.cells s), AV.agg (Spend.cells s)]) (AV.tup [il IntKind.i64 (bif okS s && okS s then sharedL s s else []), AV.int IntKind.i64 (bif okS s && okS s then (0 : Int) else (1 : Int))]) (.out (AV.bool ((bif okS s && okS s then (0 : Int) else (1 : Int)) == (0 : Int))) [] (AV.bool (okS s)) []))
    (by kernel_rfl) ?_
  refine k_dc (xshared_c (s) (s) (by first | assumption | omega) (by first | assumption | omega)) ?_
  exact k_out (Ent.of_eq (congrArg _ (by cases okS s <;> rfl)))

end Go.Proofs.YtmhipmiacghgeaaGreatDoor

namespace Go.Sp
open Go Go.Am
def chalE (b : Bas) (c : Coin) (l i : Int) (x : Cxt) : Int := bif validB b then (bif nodeB c.depth l i && ctxB x.time x.number then 0 else 2) else 1
def chalK (b : Bas) (c : Coin) (l i : Int) (x : Cxt) : Int := bif validB b && (nodeB c.depth l i && ctxB x.time x.number) then chalN b.gr.q c l i x else 0
theorem validB_ok {b : Bas} (h : validB b = true) : b.gr.Ok := by
  unfold validB at h
  simp only [Bool.and_eq_true] at h
  exact validG_iff.1 h.1.1.1.1.1.1
theorem validB_q {b : Bas} (h : validB b = true) : 0 < b.gr.q ∧ b.gr.q < 2305843009213693952 := by
  have h := validB_ok h
  have := h.qp; have := h.q3; have := h.p1
  omega
def amV (v d l i : Int) : Int := if amE v d l i = 0 then v.fdiv (2 ^ min l.toNat 64) else 0
theorem am_1 {v d l i : Int} (h : v < 0 ∨ 1099511627776 < v ∨ d < 0 ∨ 5 < d) : amE v d l i = 1 ∧ amV v d l i = 0 := by
  have e : amE v d l i = 1 := if_pos h
  exact ⟨e, by unfold amV; rw [e]; rfl⟩
theorem am_2 {v d l i : Int} (h : ¬ (v < 0 ∨ 1099511627776 < v ∨ d < 0 ∨ 5 < d)) (hn : nodeB d l i = false) : amE v d l i = 2 ∧ amV v d l i = 0 := by
  have e : amE v d l i = 2 := by unfold amE; rw [if_neg h, hn]; rfl
  exact ⟨e, by unfold amV; rw [e]; rfl⟩
theorem am_3 {v d l i : Int} (h : ¬ (v < 0 ∨ 1099511627776 < v ∨ d < 0 ∨ 5 < d)) (hn : nodeB d l i = true) : amE v d l i = 0 ∧ amV v d l i = v.fdiv (2 ^ min l.toNat 64) := by
  have e : amE v d l i = 0 := by unfold amE; rw [if_neg h, hn]; rfl
  exact ⟨e, by unfold amV; rw [e]; rfl⟩
theorem chal_1 {b : Bas} {c : Coin} {l i : Int} {x : Cxt} (h : validB b = false) : chalE b c l i x = 1 ∧ chalK b c l i x = 0 := by
  unfold chalE chalK; rw [h]; exact ⟨rfl, rfl⟩
theorem chal_2 {b : Bas} {c : Coin} {l i : Int} {x : Cxt} (h : validB b = true) (h' : nodeB c.depth l i = false ∨ ctxB x.time x.number = false) : chalE b c l i x = 2 ∧ chalK b c l i x = 0 := by
  have e : (nodeB c.depth l i && ctxB x.time x.number) = false := by rcases h' with e | e <;> simp [e]
  unfold chalE chalK; rw [h, e]; exact ⟨rfl, rfl⟩
theorem chal_3 {b : Bas} {c : Coin} {l i : Int} {x : Cxt} (h : validB b = true) (h' : nodeB c.depth l i = true ∧ ctxB x.time x.number = true) : chalE b c l i x = 0 ∧ chalK b c l i x = chalN b.gr.q c l i x := by
  have e : (nodeB c.depth l i && ctxB x.time x.number) = true := by simp [h']
  unfold chalE chalK; rw [h, e]; exact ⟨rfl, rfl⟩
theorem span_a {d l i : Int} (h : d < 0 ∨ d > 5) : spanA d l i = 0 ∧ spanZ d l i = 0 ∧ spanE d l i = 1 := span_1 (by simp; omega)
theorem span_b {d l i : Int} (h : ¬ (d < 0 ∨ d > 5)) (hn : nodeB d l i = false) : spanA d l i = 0 ∧ spanZ d l i = 0 ∧ spanE d l i = 2 := span_2 (by simp; omega) (by simp [hn])
theorem span_d {d l i : Int} (hn : nodeB d l i = true) : spanE d l i = 0 ∧ 0 ≤ l ∧ l ≤ d ∧ 0 ≤ d ∧ d ≤ 5 := by
  have h := node_t hn
  refine ⟨?_, by omega, by omega, by omega, by omega⟩
  unfold spanE
  rw [if_neg (by omega), if_pos hn]
end Go.Sp
