/- Part of the proof: DS17, DS18, DS19, DS20, Nod, DS21, SpOpen, SpOpenP, Args, EnGlob. -/
import Derived.Test.YtmhipmiacghgeaaDoorM6
import Derived.Test.YtmhipmiacghgeaaDoorProg
import Derived.Test.YtmhipmiacghgeaaDoorM3
import Derived.Test.YtmhipmiacghgeaaDoorM4
import Derived.DataShut
import Derived.OpenShut
import Derived.FnData
import Derived.MakeChecks
namespace Go.Proofs.YtmhipmiacghgeaaDoor
open Go Go.Am Go.Sp
set_option maxRecDepth 100000

theorem renc_int (n : Int) : Pure Tryd.prog gl0 31 [.agg [.int .i64 1, .int .i64 n, bys 0 (fun _ => 0), .isl 4 0 (fun _ _ => .junk)]] (il .u8 (It.int n).enc) := by
  have hw := wu64_by n
  refine pure_sk (own := ow0) Tryd.func31 (by kernel_rfl) mixed (by kernel_rfl)
    (.tt (.dc (true) 57 ([AV.int IntKind.u64 (IntKind.wrap IntKind.u64 n), AV.int IntKind.i64 (8 : Int)]) (bys (8) (numB (IntKind.wrap IntKind.u64 n) (8))) (.req (9 ≤ 140737488355328) (.out (AV.isl (1) (9) fun (r k : Nat) => AV.int IntKind.u8 (bif Nat.blt (r + 0) (1) then intOfAV (atL [AV.int IntKind.u8 (1 : Int)] k) else numB (IntKind.wrap IntKind.u64 n) (8) (r + 0 - 1))) [] (il IntKind.u8 (It.enc (It.int n))) []))))
    (by kernel_rfl) ?_
  refine k_tt ?_
  refine k_dc (rnum7_c (IntKind.wrap IntKind.u64 n) (by first | assumption | omega) (by first | assumption | omega) (8) (by first | assumption | omega) (by first | assumption | omega)) ?_
  refine k_req (by first | omega | (simp only [Int.toNat_natCast]; omega)) ?_
  exact k_out (il_eq rfl (fun i hi => enc1 hi))

theorem renc_byt (n : Nat) (f : Nat → Int) (hn : n ≤ 1099511627776) : Pure Tryd.prog gl0 31 [.agg [.int .i64 2, .int .i64 0, bys n f, .isl 4 0 (fun _ _ => .junk)]] (il .u8 (It.byt n f).enc) := by
  have hw := wu64_by n
  have e : IntKind.wrap .u64 (n : Int) = n := wu64 (by omega) (by omega)
  refine pure_sk (own := ow0) Tryd.func31 (by kernel_rfl) mixed (by kernel_rfl)
    (.ff (.tt (.dc (true) 57 ([AV.int IntKind.u64 (IntKind.wrap IntKind.u64 (↑n : Int)), AV.int IntKind.i64 (4 : Int)]) (bys (4) (numB (IntKind.wrap IntKind.u64 (↑n : Int)) (4))) (.req (5 ≤ 140737488355328) (.req ((5 + n) * 1 ≤ 140737488355328) (.out (AV.isl (1) (5 + n) fun (r k : Nat) => AV.int IntKind.u8 (bif Nat.blt (r + 0) (5) then bif Nat.blt (r + 0) (1) then intOfAV (atL [AV.int IntKind.u8 (2 : Int)] k) else numB (IntKind.wrap IntKind.u64 (↑n : Int)) (4) (r + 0 - 1) else f (r + 0 - 5))) [] (il IntKind.u8 (It.enc (It.byt n f))) []))))))
    (by kernel_rfl) ?_
  refine k_ff ?_
  refine k_tt ?_
  refine k_dc (rnum7_c (IntKind.wrap IntKind.u64 (↑n : Int)) (by first | assumption | omega) (by first | assumption | omega) (4) (by first | assumption | omega) (by first | assumption | omega)) ?_
  refine k_req (by first | omega | (simp only [Int.toNat_natCast]; omega)) ?_
  refine k_req (by first | omega | (simp only [Int.toNat_natCast]; omega)) ?_
  exact k_out (il_eq (byt_len n f).symm (fun i hi => by
                                                                                                     rw [e]
                                                                                                     exact enc2 hi))

theorem renc_lw (n : Nat) (c : Nat → It) (E A : Nat → List Int) (hn : n ≤ 1099511627776) (h0 : A 0 = 3 :: nbL n 4) (hE : ∀ k, A (k + 1) = A k ++ E k) (hA : ∀ k, k ≤ n → (A k).length ≤ 1099511627776)
    (hc : ∀ i, i < n → Pure Tryd.prog gl0 31 [(c i).av] (il .u8 (E i))) : Pure Tryd.prog gl0 31 [.agg [.int .i64 3, .int .i64 0, bys 0 (fun _ => 0), It.sl n c]] (il .u8 (A n)) := by
  have hw := wu64_by n
  have e : IntKind.wrap .u64 (n : Int) = n := wu64 (by omega) (by omega)
  have l0 : (A 0).length = 5 := by rw [h0]; simp [nbL_len]
  have ls : ∀ k, (A (k + 1)).length = (A k).length + (E k).length := fun k => by rw [hE, List.length_append]
  refine pure_sk (own := ow0) Tryd.func31 (by kernel_rfl) mixed (by kernel_rfl)
    (.ff (.ff (.dc (true) 57 ([AV.int IntKind.u64 (IntKind.wrap IntKind.u64 (↑n : Int)), AV.int IntKind.i64 (4 : Int)]) (bys (4) (numB (IntKind.wrap IntKind.u64 (↑n : Int)) (4))) (.req (5 ≤ 140737488355328) (.loop ({ x : Nat // x ≤ n }) (fun (x : { x : Nat // x ≤ n }) => mkSt [1, 3, 4] [AV.own (0) (4) (0) (0) (4), AV.osl (1 : Nat) (1 : Nat) (0 : Nat) (List.length (A (Subtype.val x))), AV.int IntKind.i64 (↑(Subtype.val x) : Int)] [some { es := 4, n := 1, mu := true, f := Rep.lst [[AV.int IntKind.i64 (3 : Int), AV.int IntKind.i64 (0 : Int), AV.isl (1) (0) fun (i x : Nat) => AV.int IntKind.u8 (0 : Int), AV.isl (4) n fun (i j : Nat) => atL (It.cells (c i)) j]] }, ilO IntKind.u8 (A (Subtype.val x))]) (fun (x : { x : Nat // x ≤ n }) => n - Subtype.val x) (⟨(0 : Nat), Nat.zero_le n⟩) ([1, 3, 4]) ([0, 112]) ([AV.own (0) (4) (0) (0) (4), AV.osl (1) (1) (0) (5), AV.int IntKind.i64 (0 : Int)]) ([some { es := 4, n := 1, mu := true, f := Rep.lst [[AV.int IntKind.i64 (3 : Int), AV.int IntKind.i64 (0 : Int), AV.isl (1) (0) fun (i x : Nat) => AV.int IntKind.u8 (0 : Int), AV.isl (4) n fun (i j : Nat) => atL (It.cells (c i)) j]] }, some { es := 1, n := 5, mu := true, f := Rep.fn fun (i j : Nat) => AV.int IntKind.u8 (bif Nat.blt i (1) then intOfAV (atL [AV.int IntKind.u8 (3 : Int)] j) else numB (IntKind.wrap IntKind.u64 (↑n : Int)) (4) (i - 1)) }]) (fun x4 => (.br (decide ((↑x4.1 : Int) < (↑n : Int))) (.req ((0 : Int) ≤ (↑x4.1 : Int) ∧ (↑x4.1 : Int) < (↑n : Int)) (.dc (true) 31 ([AV.agg [AV.int IntKind.i64 (It.kind (c (Int.toNat (↑x4.1 : Int)))), AV.int IntKind.i64 (It.num (c (Int.toNat (↑x4.1 : Int)))), AV.isl (1) (It.nb (c (Int.toNat (↑x4.1 : Int)))) fun (i x : Nat) => AV.int IntKind.u8 (It.fb (c (Int.toNat (↑x4.1 : Int))) i), AV.isl (4) (It.nl (c (Int.toNat (↑x4.1 : Int)))) (It.row (c (Int.toNat (↑x4.1 : Int))))]]) (il IntKind.u8 (E (Int.toNat (↑x4.1 : Int)))) (.req ((List.length (A (Subtype.val x4)) + List.length (E (Int.toNat (↑x4.1 : Int)))) * 1 ≤ 140737488355328) (.again (Again (0) (fun (x : { x : Nat // x ≤ n }) => mkSt [1, 3, 4] [AV.own (0) (4) (0) (0) (4), AV.osl (1 : Nat) (1 : Nat) (0 : Nat) (List.length (A (Subtype.val x))), AV.int IntKind.i64 (↑(Subtype.val x) : Int)] [some { es := 4, n := 1, mu := true, f := Rep.lst [[AV.int IntKind.i64 (3 : Int), AV.int IntKind.i64 (0 : Int), AV.isl (1) (0) fun (i x : Nat) => AV.int IntKind.u8 (0 : Int), AV.isl (4) n fun (i j : Nat) => atL (It.cells (c i)) j]] }, ilO IntKind.u8 (A (Subtype.val x))]) (fun (x : { x : Nat // x ≤ n }) => n - Subtype.val x) x4) ([1, 3, 4]) ([0, 98]) ([AV.own (0) (4) (0) (0) (4), AV.osl (1) (1) (0) (List.length (A (Subtype.val x4)) + List.length (E (Int.toNat (↑x4.1 : Int)))), AV.int IntKind.i64 (IntKind.wrap IntKind.i64 ((↑x4.1 : Int) + (1 : Int)))]) ([some { es := 4, n := 1, mu := true, f := Rep.lst [[AV.int IntKind.i64 (3 : Int), AV.int IntKind.i64 (0 : Int), AV.isl (1) (0) fun (i x : Nat) => AV.int IntKind.u8 (0 : Int), AV.isl (4) n fun (i j : Nat) => atL (It.cells (c i)) j]] }, some { es := 1, n := List.length (A (Subtype.val x4)) + List.length (E (Int.toNat (↑x4.1 : Int))), mu := true, f := Rep.fn fun (i j : Nat) => AV.int IntKind.u8 (bif Nat.blt i (List.length (A (Subtype.val x4))) then List.getD (A (Subtype.val x4)) i (0 : Int) else List.getD (E (Int.toNat (↑x4.1 : Int))) (i - List.length (A (Subtype.val x4))) (0 : Int)) }]))))) (.out (AV.isl (1) (List.length (A (Subtype.val x4))) fun (r k : Nat) => AV.int IntKind.u8 (List.getD (A (Subtype.val x4)) (r + 0) (0 : Int))) [] (il IntKind.u8 (A n)) []))))))))
    (by kernel_rfl) ?_
  refine k_ff ?_
  refine k_ff ?_
  refine k_dc (rnum7_c (IntKind.wrap IntKind.u64 (↑n : Int)) (by first | assumption | omega) (by first | assumption | omega) (4) (by first | assumption | omega) (by first | assumption | omega)) ?_
  refine k_req (by first | omega | (simp only [Int.toNat_natCast]; omega)) ?_
  --LOOPINFO kept [1] changed [3, 4] objects [0, 112]
  --LOOPINFO   obj 0: some { es := 4, n := 1, mu := true, f := Rep.lst [[AV.int IntKind.i64 (3 : Int), AV.int IntKind.i64 (0 : Int), AV.isl (1) (0) fun (i x : Nat) => AV.int IntKind.u8 (0 : Int), AV.isl (4) n fun (i j : Nat) => atL (It.cells (c i)) j]] }
  refine k_loop (fun _ hs => hs.le (by repeat' (first | exact trivial | (first | exact Ent.refl _ | exact inc_ent (by omega) | exact Ent.nil rfl | exact Ent.of_eq (congrArg (AV.osl _ _ _) (by first | omega | (dsimp only; omega))) | exact Ent.of_eq (congrArg (AV.int _) (by first | omega | (dsimp only; omega)))) | refine And.intro ?_ ?_)) (⟨by first | exact ObEnt.refl _ | exact ObEnt.junk | exact ObEnt.zero | exact ObEnt.push rfl rfl | exact ObEnt.pushRow rfl | exact ObEnt.len (by omega) | exact ObEnt.row (by repeat' (first | exact trivial | (first | exact Ent.refl _ | exact inc_ent (by omega) | exact Ent.nil rfl | exact Ent.of_eq (congrArg (AV.osl _ _ _) (by first | omega | (dsimp only; omega))) | exact Ent.of_eq (congrArg (AV.int _) (by first | omega | (dsimp only; omega)))) | refine And.intro ?_ ?_)), obl_eq l0.symm (fun i hi => by
                                                                                                     rw [e, h0]
                                                                                                     exact enc1 hi), trivial⟩)) (fun x4 => ?_)
  refine k_br (fun h5 => ?_) (fun h5 => ?_)
  · have g5 := cnd_dec_t h5
    refine k_req (by first | omega | (simp only [Int.toNat_natCast]; omega)) ?_
    refine k_dc (hc (Int.toNat (↑x4.1 : Int)) (by first | assumption | omega)) ?_
    refine k_req (by have q1 := hA (x4.1 + 1) (by omega); have q2 := ls x4.1; simp only [Int.toNat_natCast]; omega) ?_
    exact k_again (⟨x4.1 + 1, by omega⟩) (fun _ hs => hs.le (⟨by first | exact Ent.refl _ | exact inc_ent (by omega) | exact Ent.nil rfl | exact Ent.of_eq (congrArg (AV.osl _ _ _) (by first | omega | (dsimp only; omega))) | exact Ent.of_eq (congrArg (AV.int _) (by first | omega | (dsimp only; omega))), Ent.of_eq (congrArg (AV.osl 1 1 0) (ls x4.1).symm), by first | exact Ent.refl _ | exact inc_ent (by omega) | exact Ent.nil rfl | exact Ent.of_eq (congrArg (AV.osl _ _ _) (by first | omega | (dsimp only; omega))) | exact Ent.of_eq (congrArg (AV.int _) (by first | omega | (dsimp only; omega))), trivial⟩) (⟨by first | exact ObEnt.refl _ | exact ObEnt.junk | exact ObEnt.zero | exact ObEnt.push rfl rfl | exact ObEnt.pushRow rfl | exact ObEnt.len (by omega) | exact ObEnt.row (by repeat' (first | exact trivial | (first | exact Ent.refl _ | exact inc_ent (by omega) | exact Ent.nil rfl | exact Ent.of_eq (congrArg (AV.osl _ _ _) (by first | omega | (dsimp only; omega))) | exact Ent.of_eq (congrArg (AV.int _) (by first | omega | (dsimp only; omega)))) | refine And.intro ?_ ?_)), obl_app (hE x4.1) rfl, trivial⟩)) (by first | omega | (dsimp only; omega) | (simp; omega))
  · have g5 := cnd_dec_f h5
    exact k_out (Ent.of_eq (by rw [show x4.1 = n by omega]; rfl))

theorem renc_c : ∀ x : It, x.enc.length ≤ 1099511627776 → Pure Tryd.prog gl0 31 [x.av] (il .u8 x.enc)
  | .int n, _ => renc_int n
  | .byt n f, h => renc_byt n f (by rw [byt_len] at h; omega)
  | .li n c, h => renc_lw n c (fun i => (c i).enc) (It.encP n c) (by have := It.encP_len n c n; rw [It.enc_li] at h; omega) (It.encP_zero n c) (It.encP_succ n c) (fun k hk => Nat.le_trans (It.encP_le n c hk) h)
      (fun i hi => renc_c (c i) (by have := It.enc_child (c := c) hi; omega))

/-- Which functions hand over what they make, and what they are given. -/
def ow3 : FuncId → Option (List Bool) := fun f => bif Nat.beq f 75 || Nat.beq f 56 then some [false] else bif Nat.beq f 92 then some [true, false, false] else bif Nat.beq f 71 then some [true, false] else none

theorem number_g (n : Nat) (f : Nat → Nat → Int) (v : Int) (h0 : 0 ≤ v) (hv : v < 18446744073709551616) (size : Nat) (h1 : 1 ≤ size) (h8 : size ≤ 8) (hl : n ≤ 1099511627776) :
    Gives Tryd.prog gl0 92 [⟨1, n, true, .fn fun i j => .int .u8 (f i j)⟩] [.osl 0 1 0 n, .int .u64 v, .int .i64 size] (.osl 1 1 0 (n + size)) [none, some ⟨1, n + size, true, .fn fun i j => .int .u8 (bif Nat.blt i n then f i j else numB v size (i - n))⟩] := by
  refine gives_sk (own := ow0) (hand := true) Tryd.func92 (by kernel_rfl) mixed (by kernel_rfl)
    (.loop ({ x : Nat // x ≤ size }) (fun (x : { x : Nat // x ≤ size }) => mkSt [1, 0, 7] [AV.int IntKind.u64 v, AV.osl (1 : Nat) (1 : Nat) (0 : Nat) (n + Subtype.val x), AV.int IntKind.i64 ((↑size : Int) - (1 : Int) - (↑(Subtype.val x) : Int))] [none, some { es := (1 : Nat), n := n + Subtype.val x, mu := true, f := Rep.fn fun (i j : Nat) => AV.int IntKind.u8 (bif Nat.blt i n then f i j else numB v size (i - n)) }]) (fun (x : { x : Nat // x ≤ size }) => size - Subtype.val x) (⟨(0 : Nat), Nat.zero_le size⟩) ([1, 0, 7]) ([33, 0]) ([AV.int IntKind.u64 v, AV.osl (1) (1) (0) n, AV.int IntKind.i64 (IntKind.wrap IntKind.i64 ((↑size : Int) - (1 : Int)))]) ([none, some { es := 1, n := n, mu := true, f := Rep.fn fun (i j : Nat) => AV.int IntKind.u8 (f i j) }]) (fun x0 => (.br (decide ((↑size : Int) - (1 : Int) - (↑x0.1 : Int) ≥ (0 : Int))) (.req ((0 : Int) ≤ IntKind.wrap IntKind.i64 ((8 : Int) * ((↑size : Int) - (1 : Int) - (↑x0.1 : Int)))) (.req ((n + x0.1 + 1) * 1 ≤ 140737488355328) (.again (Again (1) (fun (x : { x : Nat // x ≤ size }) => mkSt [1, 0, 7] [AV.int IntKind.u64 v, AV.osl (1 : Nat) (1 : Nat) (0 : Nat) (n + Subtype.val x), AV.int IntKind.i64 ((↑size : Int) - (1 : Int) - (↑(Subtype.val x) : Int))] [none, some { es := (1 : Nat), n := n + Subtype.val x, mu := true, f := Rep.fn fun (i j : Nat) => AV.int IntKind.u8 (bif Nat.blt i n then f i j else numB v size (i - n)) }]) (fun (x : { x : Nat // x ≤ size }) => size - Subtype.val x) x0) ([1, 0, 7]) ([114, 74]) ([AV.int IntKind.u64 v, AV.osl (1) (1) (0) (n + x0.1 + 1), AV.int IntKind.i64 (IntKind.wrap IntKind.i64 ((↑size : Int) - (1 : Int) - (↑x0.1 : Int) - (1 : Int)))]) ([none, some { es := 1, n := n + x0.1 + 1, mu := true, f := Rep.fn fun (i j : Nat) => AV.int IntKind.u8 (bif Nat.blt i (n + x0.1) then bif Nat.blt i n then f i j else numB v size (i - n) else intOfAV (atL [AV.int IntKind.u8 (IntKind.wrap IntKind.u8 (Int.fdiv v ((2 : Int) ^ min (Int.toNat (IntKind.wrap IntKind.i64 ((8 : Int) * ((↑size : Int) - (1 : Int) - (↑x0.1 : Int))))) (64))))] j)) }])))) (.out (AV.osl (1) (1) (0) (n + x0.1)) ([none, some { es := 1, n := n + x0.1, mu := true, f := Rep.fn fun (i j : Nat) => AV.int IntKind.u8 (bif Nat.blt i n then f i j else numB v size (i - n)) }]) (AV.osl (1 : Nat) (1 : Nat) (0 : Nat) (n + size)) ([none, some { es := (1 : Nat), n := n + size, mu := true, f := Rep.fn fun (i j : Nat) => AV.int IntKind.u8 (bif Nat.blt i n then f i j else numB v size (i - n)) }])))))
    (by kernel_rfl) ?_
  --LOOPINFO kept [1] changed [0, 7] objects [0, 290]
  refine k_loop (fun _ hs => hs.le (⟨by first | exact Ent.refl _ | exact inc_ent (by omega) | exact Ent.nil rfl | exact Ent.of_eq (congrArg (AV.osl _ _ _) (by first | omega | (dsimp only; omega))) | exact Ent.of_eq (congrArg (AV.int _) (by first | omega | (dsimp only; omega))), by first | exact Ent.refl _ | exact inc_ent (by omega) | exact Ent.nil rfl | exact Ent.of_eq (congrArg (AV.osl _ _ _) (by first | omega | (dsimp only; omega))) | exact Ent.of_eq (congrArg (AV.int _) (by first | omega | (dsimp only; omega))), Ent.of_eq (congrArg _ (by rw [wI (by omega) (by omega)]; dsimp only; omega)), trivial⟩) (⟨numb_ob rfl, trivial⟩)) (fun x0 => ?_)
  try (have q0 := x0.2; dsimp only at q0)
  refine k_br (fun h1 => ?_) (fun h1 => ?_)
  · have g1 := cnd_dec_t h1
    refine k_req (by rw [wI (by omega) (by omega)]; omega) ?_
    refine k_req (by first | omega | (simp only [Int.toNat_natCast]; omega)) ?_
    exact k_again (⟨x0.1 + 1, by omega⟩) (fun _ hs => hs.le (⟨by first | exact Ent.refl _ | exact inc_ent (by omega) | exact Ent.nil rfl | exact Ent.of_eq (congrArg (AV.osl _ _ _) (by first | omega | (dsimp only; omega))) | exact Ent.of_eq (congrArg (AV.int _) (by first | omega | (dsimp only; omega))), by first | exact Ent.refl _ | exact inc_ent (by omega) | exact Ent.nil rfl | exact Ent.of_eq (congrArg (AV.osl _ _ _) (by first | omega | (dsimp only; omega))) | exact Ent.of_eq (congrArg (AV.int _) (by first | omega | (dsimp only; omega))), Ent.of_eq (congrArg _ (by rw [wI (by omega) (by omega)]; dsimp only; omega)), trivial⟩) (⟨numb_obs (shr_num (by omega) h8), trivial⟩)) (by first | omega | (dsimp only; omega) | (simp; omega))
  · have g1 := cnd_dec_f h1
    exact k_outg (Ent.of_eq (congrArg (AV.osl 1 1 0) (by omega))) (by repeat' (first | exact trivial | (first | exact ObEnt.refl _ | exact ObEnt.junk | exact ObEnt.zero | exact ObEnt.push rfl rfl | exact ObEnt.pushRow rfl | exact ObEnt.len (by omega) | exact ObEnt.row (by repeat' (first | exact trivial | (first | exact Ent.refl _ | exact inc_ent (by omega) | exact Ent.nil rfl | exact Ent.of_eq (congrArg (AV.osl _ _ _) (by first | omega | (dsimp only; omega))) | exact Ent.of_eq (congrArg (AV.int _) (by first | omega | (dsimp only; omega)))) | refine And.intro ?_ ?_))) | refine And.intro ?_ ?_))

theorem number_h (b : Int) (v : Int) (h0 : 0 ≤ v) (hv : v < 18446744073709551616) (size : Nat) (h1 : 1 ≤ size) (h8 : size ≤ 8) :
    Gives Tryd.prog gl0 92 [⟨1, 1, true, .lst [[.int .u8 b]]⟩] [.osl 0 1 0 1, .int .u64 v, .int .i64 size] (.osl 1 1 0 (1 + size)) [none, some ⟨1, 1 + size, true, .fn fun i _ => .int .u8 (bif Nat.blt i 1 then b else numB v size (i - 1))⟩] := by
  refine gives_sk (own := ow0) (hand := true) Tryd.func92 (by kernel_rfl) mixed (by kernel_rfl)
    (.loop ({ x : Nat // x ≤ size }) (fun (x : { x : Nat // x ≤ size }) => mkSt [1, 0, 7] [AV.int IntKind.u64 v, AV.osl (1 : Nat) (1 : Nat) (0 : Nat) ((1 : Nat) + Subtype.val x), AV.int IntKind.i64 ((↑size : Int) - (1 : Int) - (↑(Subtype.val x) : Int))] [none, some { es := (1 : Nat), n := (1 : Nat) + Subtype.val x, mu := true, f := Rep.fn fun (i x : Nat) => AV.int IntKind.u8 (bif Nat.blt i (1 : Nat) then b else numB v size (i - (1 : Nat))) }]) (fun (x : { x : Nat // x ≤ size }) => size - Subtype.val x) (⟨(0 : Nat), Nat.zero_le size⟩) ([1, 0, 7]) ([33, 0]) ([AV.int IntKind.u64 v, AV.osl (1) (1) (0) (1), AV.int IntKind.i64 (IntKind.wrap IntKind.i64 ((↑size : Int) - (1 : Int)))]) ([none, some { es := 1, n := 1, mu := true, f := Rep.lst [[AV.int IntKind.u8 b]] }]) (fun x0 => (.br (decide ((↑size : Int) - (1 : Int) - (↑x0.1 : Int) ≥ (0 : Int))) (.req ((0 : Int) ≤ IntKind.wrap IntKind.i64 ((8 : Int) * ((↑size : Int) - (1 : Int) - (↑x0.1 : Int)))) (.req ((1 + x0.1 + 1) * 1 ≤ 140737488355328) (.again (Again (1) (fun (x : { x : Nat // x ≤ size }) => mkSt [1, 0, 7] [AV.int IntKind.u64 v, AV.osl (1 : Nat) (1 : Nat) (0 : Nat) ((1 : Nat) + Subtype.val x), AV.int IntKind.i64 ((↑size : Int) - (1 : Int) - (↑(Subtype.val x) : Int))] [none, some { es := (1 : Nat), n := (1 : Nat) + Subtype.val x, mu := true, f := Rep.fn fun (i x : Nat) => AV.int IntKind.u8 (bif Nat.blt i (1 : Nat) then b else numB v size (i - (1 : Nat))) }]) (fun (x : { x : Nat // x ≤ size }) => size - Subtype.val x) x0) ([1, 0, 7]) ([114, 74]) ([AV.int IntKind.u64 v, AV.osl (1) (1) (0) (1 + x0.1 + 1), AV.int IntKind.i64 (IntKind.wrap IntKind.i64 ((↑size : Int) - (1 : Int) - (↑x0.1 : Int) - (1 : Int)))]) ([none, some { es := 1, n := 1 + x0.1 + 1, mu := true, f := Rep.fn fun (i j : Nat) => AV.int IntKind.u8 (bif Nat.blt i (1 + x0.1) then bif Nat.blt i (1) then b else numB v size (i - 1) else intOfAV (atL [AV.int IntKind.u8 (IntKind.wrap IntKind.u8 (Int.fdiv v ((2 : Int) ^ min (Int.toNat (IntKind.wrap IntKind.i64 ((8 : Int) * ((↑size : Int) - (1 : Int) - (↑x0.1 : Int))))) (64))))] j)) }])))) (.out (AV.osl (1) (1) (0) (1 + x0.1)) ([none, some { es := 1, n := 1 + x0.1, mu := true, f := Rep.fn fun (i j : Nat) => AV.int IntKind.u8 (bif Nat.blt i (1 : Nat) then b else numB v size (i - (1 : Nat))) }]) (AV.osl (1 : Nat) (1 : Nat) (0 : Nat) ((1 : Nat) + size)) ([none, some { es := (1 : Nat), n := (1 : Nat) + size, mu := true, f := Rep.fn fun (i x : Nat) => AV.int IntKind.u8 (bif Nat.blt i (1 : Nat) then b else numB v size (i - (1 : Nat))) }])))))
    (by kernel_rfl) ?_
  --LOOPINFO kept [1] changed [0, 7] objects [0, 290]
  refine k_loop (fun _ hs => hs.le (⟨by first | exact Ent.refl _ | exact inc_ent (by omega) | exact Ent.nil rfl | exact Ent.of_eq (congrArg (AV.osl _ _ _) (by first | omega | (dsimp only; omega))) | exact Ent.of_eq (congrArg (AV.int _) (by first | omega | (dsimp only; omega))), by first | exact Ent.refl _ | exact inc_ent (by omega) | exact Ent.nil rfl | exact Ent.of_eq (congrArg (AV.osl _ _ _) (by first | omega | (dsimp only; omega))) | exact Ent.of_eq (congrArg (AV.int _) (by first | omega | (dsimp only; omega))), Ent.of_eq (congrArg _ (by rw [wI (by omega) (by omega)]; dsimp only; omega)), trivial⟩) (⟨numb_ob1 rfl, trivial⟩)) (fun x0 => ?_)
  try (have q0 := x0.2; dsimp only at q0)
  refine k_br (fun h1 => ?_) (fun h1 => ?_)
  · have g1 := cnd_dec_t h1
    refine k_req (by rw [wI (by omega) (by omega)]; omega) ?_
    refine k_req (by first | omega | (simp only [Int.toNat_natCast]; omega)) ?_
    exact k_again (⟨x0.1 + 1, by omega⟩) (fun _ hs => hs.le (⟨by first | exact Ent.refl _ | exact inc_ent (by omega) | exact Ent.nil rfl | exact Ent.of_eq (congrArg (AV.osl _ _ _) (by first | omega | (dsimp only; omega))) | exact Ent.of_eq (congrArg (AV.int _) (by first | omega | (dsimp only; omega))), by first | exact Ent.refl _ | exact inc_ent (by omega) | exact Ent.nil rfl | exact Ent.of_eq (congrArg (AV.osl _ _ _) (by first | omega | (dsimp only; omega))) | exact Ent.of_eq (congrArg (AV.int _) (by first | omega | (dsimp only; omega))), Ent.of_eq (congrArg _ (by rw [wI (by omega) (by omega)]; dsimp only; omega)), trivial⟩) (⟨numb_obs (f := fun _ _ => b) (shr_num (by omega) h8), trivial⟩)) (by first | omega | (dsimp only; omega) | (simp; omega))
  · have g1 := cnd_dec_f h1
    exact k_outg (Ent.of_eq (congrArg (AV.osl 1 1 0) (by omega))) (by repeat' (first | exact trivial | (first | exact ObEnt.refl _ | exact ObEnt.junk | exact ObEnt.zero | exact ObEnt.push rfl rfl | exact ObEnt.pushRow rfl | exact ObEnt.len (by omega) | exact ObEnt.row (by repeat' (first | exact trivial | (first | exact Ent.refl _ | exact inc_ent (by omega) | exact Ent.nil rfl | exact Ent.of_eq (congrArg (AV.osl _ _ _) (by first | omega | (dsimp only; omega))) | exact Ent.of_eq (congrArg (AV.int _) (by first | omega | (dsimp only; omega)))) | refine And.intro ?_ ?_))) | refine And.intro ?_ ?_))

theorem write_int (l : List Int) (n : Int) (hl : l.length ≤ 16384) : Gives Tryd.prog gl0 71 [⟨1, l.length, true, .fn (ilF .u8 l)⟩] [.osl 0 1 0 l.length, .agg [.int .i64 1, .int .i64 n, bys 0 (fun _ => 0), .isl 4 0 (fun _ _ => .junk)]]
    (.osl 1 1 0 (l ++ (It.int n).enc).length) [none, ilO .u8 (l ++ (It.int n).enc)] := by
  have hw := wu64_by n
  refine gives_sk (own := ow3) (hand := true) Tryd.func71 (by kernel_rfl) mixed (by kernel_rfl)
    (.br (decide ((↑(List.length l) : Int) > (16384 : Int))) (.out (AV.osl (0) (1) (0) (List.length l)) ([some { es := 1, n := List.length l, mu := true, f := Rep.fn fun (i j : Nat) => AV.int IntKind.u8 (List.getD l i (0 : Int)) }]) (AV.osl (1 : Nat) (1 : Nat) (0 : Nat) (List.length (l ++ It.enc (It.int n)))) ([none, ilO IntKind.u8 (l ++ It.enc (It.int n))])) (.req ((List.length l + 1) * 1 ≤ 140737488355328) (.tt (.gc 92 ([{ es := 1, n := List.length l + 1, mu := true, f := Rep.fn fun (i j : Nat) => AV.int IntKind.u8 (bif Nat.blt i (List.length l) then List.getD l i (0 : Int) else intOfAV (atL [AV.int IntKind.u8 (IntKind.wrap IntKind.u8 (1 : Int))] j)) }]) ([AV.osl (0) (1) (0) (List.length l + 1), AV.int IntKind.u64 (IntKind.wrap IntKind.u64 n), AV.int IntKind.i64 (8 : Int)]) (AV.osl (1 : Nat) (1 : Nat) (0 : Nat) (List.length l + 1 + 8)) ([none, some { es := (1 : Nat), n := List.length l + 1 + 8, mu := true, f := Rep.fn fun (i j : Nat) => AV.int IntKind.u8 (bif Nat.blt i (List.length l + 1) then bif Nat.blt i (List.length l) then List.getD l i (0 : Int) else intOfAV (atL [AV.int IntKind.u8 (IntKind.wrap IntKind.u8 (1 : Int))] j) else numB (IntKind.wrap IntKind.u64 n) (8) (i - (List.length l + 1))) }]) (.out (AV.osl (1) (1) (0) (List.length l + 1 + 8)) ([none, some { es := 1, n := List.length l + 1 + 8, mu := true, f := Rep.fn fun (i j : Nat) => AV.int IntKind.u8 (bif Nat.blt i (List.length l + 1) then bif Nat.blt i (List.length l) then List.getD l i (0 : Int) else intOfAV (atL [AV.int IntKind.u8 (IntKind.wrap IntKind.u8 (1 : Int))] j) else numB (IntKind.wrap IntKind.u64 n) (8) (i - (List.length l + 1))) }]) (AV.osl (1 : Nat) (1 : Nat) (0 : Nat) (List.length (l ++ It.enc (It.int n)))) ([none, ilO IntKind.u8 (l ++ It.enc (It.int n))]))))))
    (by kernel_rfl) ?_
  refine k_br (fun h0 => ?_) (fun h0 => ?_)
  · have g0 := cnd_dec_t h0
    exact k_outg ((by exfalso; omega)) ((by exfalso; omega))
  · have g0 := cnd_dec_f h0
    refine k_req (by first | omega | (simp only [Int.toNat_natCast]; omega)) ?_
    refine k_tt ?_
    refine k_gc (number_g (List.length l + 1) (fun (i j : Nat) => bif Nat.blt i (List.length l) then List.getD l i (0 : Int) else intOfAV (atL [AV.int IntKind.u8 (IntKind.wrap IntKind.u8 (1 : Int))] j)) (IntKind.wrap IntKind.u64 n) (by first | assumption | omega) (by first | assumption | omega) (8) (by first | assumption | omega) (by first | assumption | omega) (by first | assumption | omega)) ?_
    exact k_outg (Ent.of_eq (congrArg (AV.osl 1 1 0) (wr_int l n))) (⟨obl_eq (wr_int l n) (fun i hi => wr1 hi), trivial⟩)

theorem write_byt (l : List Int) (n : Nat) (f : Nat → Int) (hl : l.length ≤ 16384) (hn : n ≤ 16384) : Gives Tryd.prog gl0 71 [⟨1, l.length, true, .fn (ilF .u8 l)⟩] [.osl 0 1 0 l.length, .agg [.int .i64 2, .int .i64 0, bys n f, .isl 4 0 (fun _ _ => .junk)]]
    (.osl 1 1 0 (l ++ (It.byt n f).enc).length) [none, ilO .u8 (l ++ (It.byt n f).enc)] := by
  have hw := wu64_by n
  have e : IntKind.wrap .u64 (n : Int) = n := wu64 (by omega) (by omega)
  refine gives_sk (own := ow3) (hand := true) Tryd.func71 (by kernel_rfl) mixed (by kernel_rfl)
    (.br (decide ((↑(List.length l) : Int) > (16384 : Int))) (.out (AV.osl (0) (1) (0) (List.length l)) ([some { es := 1, n := List.length l, mu := true, f := Rep.fn fun (i j : Nat) => AV.int IntKind.u8 (List.getD l i (0 : Int)) }]) (AV.osl (1 : Nat) (1 : Nat) (0 : Nat) (List.length (l ++ It.enc (It.byt n f)))) ([none, ilO IntKind.u8 (l ++ It.enc (It.byt n f))])) (.req ((List.length l + 1) * 1 ≤ 140737488355328) (.ff (.tt (.gc 92 ([{ es := 1, n := List.length l + 1, mu := true, f := Rep.fn fun (i j : Nat) => AV.int IntKind.u8 (bif Nat.blt i (List.length l) then List.getD l i (0 : Int) else intOfAV (atL [AV.int IntKind.u8 (IntKind.wrap IntKind.u8 (2 : Int))] j)) }]) ([AV.osl (0) (1) (0) (List.length l + 1), AV.int IntKind.u64 (IntKind.wrap IntKind.u64 (↑n : Int)), AV.int IntKind.i64 (4 : Int)]) (AV.osl (1 : Nat) (1 : Nat) (0 : Nat) (List.length l + 1 + 4)) ([none, some { es := (1 : Nat), n := List.length l + 1 + 4, mu := true, f := Rep.fn fun (i j : Nat) => AV.int IntKind.u8 (bif Nat.blt i (List.length l + 1) then bif Nat.blt i (List.length l) then List.getD l i (0 : Int) else intOfAV (atL [AV.int IntKind.u8 (IntKind.wrap IntKind.u8 (2 : Int))] j) else numB (IntKind.wrap IntKind.u64 (↑n : Int)) (4) (i - (List.length l + 1))) }]) (.req ((List.length l + 1 + 4 + n) * 1 ≤ 140737488355328) (.out (AV.osl (1) (1) (0) (List.length l + 1 + 4 + n)) ([none, some { es := 1, n := List.length l + 1 + 4 + n, mu := true, f := Rep.fn fun (i j : Nat) => AV.int IntKind.u8 (bif Nat.blt i (List.length l + 1 + 4) then bif Nat.blt i (List.length l + 1) then bif Nat.blt i (List.length l) then List.getD l i (0 : Int) else intOfAV (atL [AV.int IntKind.u8 (IntKind.wrap IntKind.u8 (2 : Int))] j) else numB (IntKind.wrap IntKind.u64 (↑n : Int)) (4) (i - (List.length l + 1)) else f (i - (List.length l + 1 + 4))) }]) (AV.osl (1 : Nat) (1 : Nat) (0 : Nat) (List.length (l ++ It.enc (It.byt n f)))) ([none, ilO IntKind.u8 (l ++ It.enc (It.byt n f))]))))))))
    (by kernel_rfl) ?_
  refine k_br (fun h0 => ?_) (fun h0 => ?_)
  · have g0 := cnd_dec_t h0
    exact k_outg ((by exfalso; omega)) ((by exfalso; omega))
  · have g0 := cnd_dec_f h0
    refine k_req (by first | omega | (simp only [Int.toNat_natCast]; omega)) ?_
    refine k_ff ?_
    refine k_tt ?_
    refine k_gc (number_g (List.length l + 1) (fun (i j : Nat) => bif Nat.blt i (List.length l) then List.getD l i (0 : Int) else intOfAV (atL [AV.int IntKind.u8 (IntKind.wrap IntKind.u8 (2 : Int))] j)) (IntKind.wrap IntKind.u64 (↑n : Int)) (by first | assumption | omega) (by first | assumption | omega) (4) (by first | assumption | omega) (by first | assumption | omega) (by first | assumption | omega)) ?_
    refine k_req (by first | omega | (simp only [Int.toNat_natCast]; omega)) ?_
    exact k_outg (Ent.of_eq (congrArg (AV.osl 1 1 0) (wr_byt l n f))) (⟨obl_eq (wr_byt l n f) (fun i hi => by
                                                                                                     rw [e]
                                                                                                     exact wr2 hi), trivial⟩)

theorem write_lw (l : List Int) (n : Nat) (c : Nat → It) (E A : Nat → List Int) (hl : l.length ≤ 16384) (hn : n ≤ 16384) (hA0 : A 0 = l ++ (3 :: nbL n 4)) (hE : ∀ k, A (k + 1) = A k ++ E k) (hA : ∀ k, k ≤ n → (A k).length ≤ 16384)
    (hc : ∀ i, i < n → ∀ l : List Int, l.length ≤ 16384 → (l ++ E i).length ≤ 16384 → Gives Tryd.prog gl0 71 [⟨1, l.length, true, .fn (ilF .u8 l)⟩] [.osl 0 1 0 l.length, (c i).av] (.osl 1 1 0 (l ++ E i).length) [none, ilO .u8 (l ++ E i)]) :
    Gives Tryd.prog gl0 71 [⟨1, l.length, true, .fn (ilF .u8 l)⟩] [.osl 0 1 0 l.length, .agg [.int .i64 3, .int .i64 0, bys 0 (fun _ => 0), It.sl n c]] (.osl 1 1 0 (A n).length) [none, ilO .u8 (A n)] := by
  have hw := wu64_by n
  have e : IntKind.wrap .u64 (n : Int) = n := wu64 (by omega) (by omega)
  have l0 : l.length + 1 + 4 = (A 0).length := by rw [hA0]; simp [nbL_len]
  have ls : ∀ k, (A (k + 1)).length = (A k).length + (E k).length := fun k => by rw [hE, List.length_append]
  refine gives_sk (own := ow3) (hand := true) Tryd.func71 (by kernel_rfl) mixed (by kernel_rfl)
    (.br (decide ((↑(List.length l) : Int) > (16384 : Int))) (.out (AV.osl (0) (1) (0) (List.length l)) ([some { es := 1, n := List.length l, mu := true, f := Rep.fn fun (i j : Nat) => AV.int IntKind.u8 (List.getD l i (0 : Int)) }]) (AV.osl (1 : Nat) (1 : Nat) (0 : Nat) (List.length (A n))) ([none, ilO IntKind.u8 (A n)])) (.req ((List.length l + 1) * 1 ≤ 140737488355328) (.ff (.ff (.gc 92 ([{ es := 1, n := List.length l + 1, mu := true, f := Rep.fn fun (i j : Nat) => AV.int IntKind.u8 (bif Nat.blt i (List.length l) then List.getD l i (0 : Int) else intOfAV (atL [AV.int IntKind.u8 (IntKind.wrap IntKind.u8 (3 : Int))] j)) }]) ([AV.osl (0) (1) (0) (List.length l + 1), AV.int IntKind.u64 (IntKind.wrap IntKind.u64 (↑n : Int)), AV.int IntKind.i64 (4 : Int)]) (AV.osl (1 : Nat) (1 : Nat) (0 : Nat) (List.length l + 1 + 4)) ([none, some { es := (1 : Nat), n := List.length l + 1 + 4, mu := true, f := Rep.fn fun (i j : Nat) => AV.int IntKind.u8 (bif Nat.blt i (List.length l + 1) then bif Nat.blt i (List.length l) then List.getD l i (0 : Int) else intOfAV (atL [AV.int IntKind.u8 (IntKind.wrap IntKind.u8 (3 : Int))] j) else numB (IntKind.wrap IntKind.u64 (↑n : Int)) (4) (i - (List.length l + 1))) }]) (.loop ({ x : Nat // x ≤ n }) (fun (x : { x : Nat // x ≤ n }) => mkSt [44, 45, 0, 46] [AV.isl (4) n fun (i j : Nat) => atL (It.cells (c i)) j, AV.int IntKind.i64 (↑n : Int), AV.osl (1 : Nat) (1 : Nat) (0 : Nat) (List.length (A (Subtype.val x))), AV.int IntKind.i64 (↑(Subtype.val x) : Int)] [none, ilO IntKind.u8 (A (Subtype.val x))]) (fun (x : { x : Nat // x ≤ n }) => n - Subtype.val x) (⟨(0 : Nat), Nat.zero_le n⟩) ([44, 45, 0, 46]) ([233, 185]) ([AV.isl (4) n fun (i j : Nat) => atL (It.cells (c i)) j, AV.int IntKind.i64 (↑n : Int), AV.osl (1) (1) (0) (List.length l + 1 + 4), AV.int IntKind.i64 (0 : Int)]) ([none, some { es := 1, n := List.length l + 1 + 4, mu := true, f := Rep.fn fun (i j : Nat) => AV.int IntKind.u8 (bif Nat.blt i (List.length l + 1) then bif Nat.blt i (List.length l) then List.getD l i (0 : Int) else intOfAV (atL [AV.int IntKind.u8 (IntKind.wrap IntKind.u8 (3 : Int))] j) else numB (IntKind.wrap IntKind.u64 (↑n : Int)) (4) (i - (List.length l + 1))) }]) (fun x6 => (.br (decide ((↑x6.1 : Int) < (↑n : Int))) (.req ((0 : Int) ≤ (↑x6.1 : Int) ∧ (↑x6.1 : Int) < (↑n : Int)) (.gc 71 ([{ es := 1, n := List.length (A (Subtype.val x6)), mu := true, f := Rep.fn fun (i j : Nat) => AV.int IntKind.u8 (List.getD (A (Subtype.val x6)) i (0 : Int)) }]) ([AV.osl (0) (1) (0) (List.length (A (Subtype.val x6))), AV.agg [AV.int IntKind.i64 (It.kind (c (Int.toNat (↑x6.1 : Int)))), AV.int IntKind.i64 (It.num (c (Int.toNat (↑x6.1 : Int)))), AV.isl (1) (It.nb (c (Int.toNat (↑x6.1 : Int)))) fun (i x : Nat) => AV.int IntKind.u8 (It.fb (c (Int.toNat (↑x6.1 : Int))) i), AV.isl (4) (It.nl (c (Int.toNat (↑x6.1 : Int)))) (It.row (c (Int.toNat (↑x6.1 : Int))))]]) (AV.osl (1 : Nat) (1 : Nat) (0 : Nat) (List.length (A (Subtype.val x6) ++ E (Int.toNat (↑x6.1 : Int))))) ([none, ilO IntKind.u8 (A (Subtype.val x6) ++ E (Int.toNat (↑x6.1 : Int)))]) (.again (Again (1) (fun (x : { x : Nat // x ≤ n }) => mkSt [44, 45, 0, 46] [AV.isl (4) n fun (i j : Nat) => atL (It.cells (c i)) j, AV.int IntKind.i64 (↑n : Int), AV.osl (1 : Nat) (1 : Nat) (0 : Nat) (List.length (A (Subtype.val x))), AV.int IntKind.i64 (↑(Subtype.val x) : Int)] [none, ilO IntKind.u8 (A (Subtype.val x))]) (fun (x : { x : Nat // x ≤ n }) => n - Subtype.val x) x6) ([44, 45, 0, 46]) ([90, 58]) ([AV.isl (4) n fun (i j : Nat) => atL (It.cells (c i)) j, AV.int IntKind.i64 (↑n : Int), AV.osl (1) (1) (0) (List.length (A (Subtype.val x6) ++ E (Int.toNat (↑x6.1 : Int)))), AV.int IntKind.i64 (IntKind.wrap IntKind.i64 ((↑x6.1 : Int) + (1 : Int)))]) ([none, some { es := 1, n := List.length (A (Subtype.val x6) ++ E (Int.toNat (↑x6.1 : Int))), mu := true, f := Rep.fn fun (i j : Nat) => AV.int IntKind.u8 (List.getD (A (Subtype.val x6) ++ E (Int.toNat (↑x6.1 : Int))) i (0 : Int)) }])))) (.out (AV.osl (1) (1) (0) (List.length (A (Subtype.val x6)))) ([none, some { es := 1, n := List.length (A (Subtype.val x6)), mu := true, f := Rep.fn fun (i j : Nat) => AV.int IntKind.u8 (List.getD (A (Subtype.val x6)) i (0 : Int)) }]) (AV.osl (1 : Nat) (1 : Nat) (0 : Nat) (List.length (A n))) ([none, ilO IntKind.u8 (A n)]))))))))))
    (by kernel_rfl) ?_
  refine k_br (fun h0 => ?_) (fun h0 => ?_)
  · have g0 := cnd_dec_t h0
    exact k_outg ((by exfalso; omega)) ((by exfalso; omega))
  · have g0 := cnd_dec_f h0
    refine k_req (by first | omega | (simp only [Int.toNat_natCast]; omega)) ?_
    refine k_ff ?_
    refine k_ff ?_
    refine k_gc (number_g (List.length l + 1) (fun (i j : Nat) => bif Nat.blt i (List.length l) then List.getD l i (0 : Int) else intOfAV (atL [AV.int IntKind.u8 (IntKind.wrap IntKind.u8 (3 : Int))] j)) (IntKind.wrap IntKind.u64 (↑n : Int)) (by first | omega | exact hA _ (by omega) | (have q := hA (x6.1 + 1) (by omega); rw [hE] at q; exact q)) (by first | omega | exact hA _ (by omega) | (have q := hA (x6.1 + 1) (by omega); rw [hE] at q; exact q)) (4) (by first | omega | exact hA _ (by omega) | (have q := hA (x6.1 + 1) (by omega); rw [hE] at q; exact q)) (by first | omega | exact hA _ (by omega) | (have q := hA (x6.1 + 1) (by omega); rw [hE] at q; exact q)) (by first | omega | exact hA _ (by omega) | (have q := hA (x6.1 + 1) (by omega); rw [hE] at q; exact q))) ?_
    --LOOPINFO kept [44, 45] changed [0, 46] objects [185, 490]
    refine k_loop (fun _ hs => hs.le (by repeat' (first | exact trivial | (first | exact Ent.refl _ | exact inc_ent (by omega) | exact Ent.nil rfl | exact Ent.of_eq (congrArg (AV.osl _ _ _) (by first | omega | (dsimp only; omega))) | exact Ent.of_eq (congrArg (AV.int _) (by first | omega | (dsimp only; omega)))) | refine And.intro ?_ ?_)) (⟨obl_eq l0 (fun i hi => by
                                                                                                     rw [e, hA0]
                                                                                                     exact wr1 (size := 4) hi), trivial⟩)) (fun x6 => ?_)
    refine k_br (fun h7 => ?_) (fun h7 => ?_)
    · have g7 := cnd_dec_t h7
      refine k_req (by first | omega | (simp only [Int.toNat_natCast]; omega)) ?_
      refine k_gc (hc (Int.toNat (↑x6.1 : Int)) (by first | omega | exact hA _ (by omega) | (have q := hA (x6.1 + 1) (by omega); rw [hE] at q; exact q)) (A (Subtype.val x6)) (by first | omega | exact hA _ (by omega) | (have q := hA (x6.1 + 1) (by omega); rw [hE] at q; exact q)) (by first | omega | exact hA _ (by omega) | (have q := hA (x6.1 + 1) (by omega); rw [hE] at q; exact q))) ?_
      exact k_again (⟨x6.1 + 1, by omega⟩) (fun _ hs => hs.le (⟨by first | exact Ent.refl _ | exact inc_ent (by omega) | exact Ent.nil rfl | exact Ent.of_eq (congrArg (AV.osl _ _ _) (by first | omega | (dsimp only; omega))) | exact Ent.of_eq (congrArg (AV.int _) (by first | omega | (dsimp only; omega))), by first | exact Ent.refl _ | exact inc_ent (by omega) | exact Ent.nil rfl | exact Ent.of_eq (congrArg (AV.osl _ _ _) (by first | omega | (dsimp only; omega))) | exact Ent.of_eq (congrArg (AV.int _) (by first | omega | (dsimp only; omega))), Ent.of_eq (congrArg (fun z => AV.osl 1 1 0 (List.length z)) (hE x6.1).symm), by first | exact Ent.refl _ | exact inc_ent (by omega) | exact Ent.nil rfl | exact Ent.of_eq (congrArg (AV.osl _ _ _) (by first | omega | (dsimp only; omega))) | exact Ent.of_eq (congrArg (AV.int _) (by first | omega | (dsimp only; omega))), trivial⟩) (⟨obl_cg (hE x6.1), trivial⟩)) (by first | omega | (dsimp only; omega) | (simp; omega))
    · have g7 := cnd_dec_f h7
      exact k_outg (Ent.of_eq (congrArg (fun z => AV.osl 1 1 0 (A z).length) (by omega))) (⟨obl_cg (congrArg A (by omega)), trivial⟩)

theorem write_int0 (n : Int) : Gives Tryd.prog gl0 71 [] [.nsl, .agg [.int .i64 1, .int .i64 n, bys 0 (fun _ => 0), .isl 4 0 (fun _ _ => .junk)]] (.osl 0 1 0 (It.int n).enc.length) [ilO .u8 (It.int n).enc] := by
  have hw := wu64_by n
  refine gives_sk (own := ow3) (hand := true) Tryd.func71 (by kernel_rfl) mixed (by kernel_rfl)
    (.ff (.req (1 ≤ 140737488355328) (.tt (.gc 92 ([{ es := 1, n := 1, mu := true, f := Rep.lst [[AV.int IntKind.u8 (IntKind.wrap IntKind.u8 (1 : Int))]] }]) ([AV.osl (0) (1) (0) (1), AV.int IntKind.u64 (IntKind.wrap IntKind.u64 n), AV.int IntKind.i64 (8 : Int)]) (AV.osl (1 : Nat) (1 : Nat) (0 : Nat) ((1 : Nat) + 8)) ([none, some { es := (1 : Nat), n := (1 : Nat) + 8, mu := true, f := Rep.fn fun (i x : Nat) => AV.int IntKind.u8 (bif Nat.blt i (1 : Nat) then IntKind.wrap IntKind.u8 (1 : Int) else numB (IntKind.wrap IntKind.u64 n) (8) (i - (1 : Nat))) }]) (.out (AV.osl (0) (1) (0) (9)) ([some { es := 1, n := 9, mu := true, f := Rep.fn fun (i j : Nat) => AV.int IntKind.u8 (bif Nat.blt i (1 : Nat) then IntKind.wrap IntKind.u8 (1 : Int) else numB (IntKind.wrap IntKind.u64 n) (8) (i - (1 : Nat))) }]) (AV.osl (0 : Nat) (1 : Nat) (0 : Nat) (List.length (It.enc (It.int n)))) ([ilO IntKind.u8 (It.enc (It.int n))]))))))
    (by kernel_rfl) ?_
  refine k_ff ?_
  refine k_req (by first | omega | (simp only [Int.toNat_natCast]; omega)) ?_
  refine k_tt ?_
  refine k_gc (number_h (IntKind.wrap IntKind.u8 (1 : Int)) (IntKind.wrap IntKind.u64 n) (by first | assumption | omega) (by first | assumption | omega) (8) (by first | assumption | omega) (by first | assumption | omega)) ?_
  exact k_outg (Ent.of_eq (congrArg (AV.osl 0 1 0) (int_len n).symm)) (⟨obl_eq (int_len n).symm (fun i hi => enc1 (size := 8) hi), trivial⟩)

theorem write_byt0 (n : Nat) (f : Nat → Int) (hn : n ≤ 16384) : Gives Tryd.prog gl0 71 [] [.nsl, .agg [.int .i64 2, .int .i64 0, bys n f, .isl 4 0 (fun _ _ => .junk)]] (.osl 0 1 0 (It.byt n f).enc.length) [ilO .u8 (It.byt n f).enc] := by
  have hw := wu64_by n
  have e : IntKind.wrap .u64 (n : Int) = n := wu64 (by omega) (by omega)
  refine gives_sk (own := ow3) (hand := true) Tryd.func71 (by kernel_rfl) mixed (by kernel_rfl)
    (.ff (.req (1 ≤ 140737488355328) (.ff (.tt (.gc 92 ([{ es := 1, n := 1, mu := true, f := Rep.lst [[AV.int IntKind.u8 (IntKind.wrap IntKind.u8 (2 : Int))]] }]) ([AV.osl (0) (1) (0) (1), AV.int IntKind.u64 (IntKind.wrap IntKind.u64 (↑n : Int)), AV.int IntKind.i64 (4 : Int)]) (AV.osl (1 : Nat) (1 : Nat) (0 : Nat) ((1 : Nat) + 4)) ([none, some { es := (1 : Nat), n := (1 : Nat) + 4, mu := true, f := Rep.fn fun (i x : Nat) => AV.int IntKind.u8 (bif Nat.blt i (1 : Nat) then IntKind.wrap IntKind.u8 (2 : Int) else numB (IntKind.wrap IntKind.u64 (↑n : Int)) (4) (i - (1 : Nat))) }]) (.req ((5 + n) * 1 ≤ 140737488355328) (.out (AV.osl (0) (1) (0) (5 + n)) ([some { es := 1, n := 5 + n, mu := true, f := Rep.fn fun (i j : Nat) => AV.int IntKind.u8 (bif Nat.blt i (5) then bif Nat.blt i (1) then IntKind.wrap IntKind.u8 (2 : Int) else numB (IntKind.wrap IntKind.u64 (↑n : Int)) (4) (i - 1) else f (i - 5)) }]) (AV.osl (0 : Nat) (1 : Nat) (0 : Nat) (List.length (It.enc (It.byt n f)))) ([ilO IntKind.u8 (It.enc (It.byt n f))]))))))))
    (by kernel_rfl) ?_
  refine k_ff ?_
  refine k_req (by first | omega | (simp only [Int.toNat_natCast]; omega)) ?_
  refine k_ff ?_
  refine k_tt ?_
  refine k_gc (number_h (IntKind.wrap IntKind.u8 (2 : Int)) (IntKind.wrap IntKind.u64 (↑n : Int)) (by first | assumption | omega) (by first | assumption | omega) (4) (by first | assumption | omega) (by first | assumption | omega)) ?_
  refine k_req (by first | omega | (simp only [Int.toNat_natCast]; omega)) ?_
  exact k_outg (Ent.of_eq (congrArg (AV.osl 0 1 0) (byt_len n f).symm)) (⟨obl_eq (byt_len n f).symm (fun i hi => by
                                                                                                     rw [e]
                                                                                                     exact enc2 hi), trivial⟩)

theorem write_lw0 (n : Nat) (c : Nat → It) (E A : Nat → List Int) (hn : n ≤ 16384) (hA0 : A 0 = 3 :: nbL n 4) (hE : ∀ k, A (k + 1) = A k ++ E k) (hA : ∀ k, k ≤ n → (A k).length ≤ 16384)
    (hc : ∀ i, i < n → ∀ l : List Int, l.length ≤ 16384 → (l ++ E i).length ≤ 16384 → Gives Tryd.prog gl0 71 [⟨1, l.length, true, .fn (ilF .u8 l)⟩] [.osl 0 1 0 l.length, (c i).av] (.osl 1 1 0 (l ++ E i).length) [none, ilO .u8 (l ++ E i)]) :
    Gives Tryd.prog gl0 71 [] [.nsl, .agg [.int .i64 3, .int .i64 0, bys 0 (fun _ => 0), It.sl n c]] (.osl 0 1 0 (A n).length) [ilO .u8 (A n)] := by
  have hw := wu64_by n
  have e : IntKind.wrap .u64 (n : Int) = n := wu64 (by omega) (by omega)
  have l0 : 1 + 4 = (A 0).length := by rw [hA0]; simp [nbL_len]
  have ls : ∀ k, (A (k + 1)).length = (A k).length + (E k).length := fun k => by rw [hE, List.length_append]
  refine gives_sk (own := ow3) (hand := true) Tryd.func71 (by kernel_rfl) mixed (by kernel_rfl)
    (.ff (.req (1 ≤ 140737488355328) (.ff (.ff (.gc 92 ([{ es := 1, n := 1, mu := true, f := Rep.lst [[AV.int IntKind.u8 (IntKind.wrap IntKind.u8 (3 : Int))]] }]) ([AV.osl (0) (1) (0) (1), AV.int IntKind.u64 (IntKind.wrap IntKind.u64 (↑n : Int)), AV.int IntKind.i64 (4 : Int)]) (AV.osl (1 : Nat) (1 : Nat) (0 : Nat) ((1 : Nat) + 4)) ([none, some { es := (1 : Nat), n := (1 : Nat) + 4, mu := true, f := Rep.fn fun (i x : Nat) => AV.int IntKind.u8 (bif Nat.blt i (1 : Nat) then IntKind.wrap IntKind.u8 (3 : Int) else numB (IntKind.wrap IntKind.u64 (↑n : Int)) (4) (i - (1 : Nat))) }]) (.loop ({ x : Nat // x ≤ n }) (fun (x : { x : Nat // x ≤ n }) => mkSt [44, 45, 0, 46] [AV.isl (4) n fun (i j : Nat) => atL (It.cells (c i)) j, AV.int IntKind.i64 (↑n : Int), AV.osl (0 : Nat) (1 : Nat) (0 : Nat) (List.length (A (Subtype.val x))), AV.int IntKind.i64 (↑(Subtype.val x) : Int)] [ilO IntKind.u8 (A (Subtype.val x))]) (fun (x : { x : Nat // x ≤ n }) => n - Subtype.val x) (⟨(0 : Nat), Nat.zero_le n⟩) ([44, 45, 0, 46]) ([184]) ([AV.isl (4) n fun (i j : Nat) => atL (It.cells (c i)) j, AV.int IntKind.i64 (↑n : Int), AV.osl (0) (1) (0) (5), AV.int IntKind.i64 (0 : Int)]) ([some { es := 1, n := 5, mu := true, f := Rep.fn fun (i j : Nat) => AV.int IntKind.u8 (bif Nat.blt i (1 : Nat) then IntKind.wrap IntKind.u8 (3 : Int) else numB (IntKind.wrap IntKind.u64 (↑n : Int)) (4) (i - (1 : Nat))) }]) (fun x5 => (.br (decide ((↑x5.1 : Int) < (↑n : Int))) (.req ((0 : Int) ≤ (↑x5.1 : Int) ∧ (↑x5.1 : Int) < (↑n : Int)) (.gc 71 ([{ es := 1, n := List.length (A (Subtype.val x5)), mu := true, f := Rep.fn fun (i j : Nat) => AV.int IntKind.u8 (List.getD (A (Subtype.val x5)) i (0 : Int)) }]) ([AV.osl (0) (1) (0) (List.length (A (Subtype.val x5))), AV.agg [AV.int IntKind.i64 (It.kind (c (Int.toNat (↑x5.1 : Int)))), AV.int IntKind.i64 (It.num (c (Int.toNat (↑x5.1 : Int)))), AV.isl (1) (It.nb (c (Int.toNat (↑x5.1 : Int)))) fun (i x : Nat) => AV.int IntKind.u8 (It.fb (c (Int.toNat (↑x5.1 : Int))) i), AV.isl (4) (It.nl (c (Int.toNat (↑x5.1 : Int)))) (It.row (c (Int.toNat (↑x5.1 : Int))))]]) (AV.osl (1 : Nat) (1 : Nat) (0 : Nat) (List.length (A (Subtype.val x5) ++ E (Int.toNat (↑x5.1 : Int))))) ([none, ilO IntKind.u8 (A (Subtype.val x5) ++ E (Int.toNat (↑x5.1 : Int)))]) (.again (Again (0) (fun (x : { x : Nat // x ≤ n }) => mkSt [44, 45, 0, 46] [AV.isl (4) n fun (i j : Nat) => atL (It.cells (c i)) j, AV.int IntKind.i64 (↑n : Int), AV.osl (0 : Nat) (1 : Nat) (0 : Nat) (List.length (A (Subtype.val x))), AV.int IntKind.i64 (↑(Subtype.val x) : Int)] [ilO IntKind.u8 (A (Subtype.val x))]) (fun (x : { x : Nat // x ≤ n }) => n - Subtype.val x) x5) ([44, 45, 0, 46]) ([57]) ([AV.isl (4) n fun (i j : Nat) => atL (It.cells (c i)) j, AV.int IntKind.i64 (↑n : Int), AV.osl (0) (1) (0) (List.length (A (Subtype.val x5) ++ E (Int.toNat (↑x5.1 : Int)))), AV.int IntKind.i64 (IntKind.wrap IntKind.i64 ((↑x5.1 : Int) + (1 : Int)))]) ([some { es := 1, n := List.length (A (Subtype.val x5) ++ E (Int.toNat (↑x5.1 : Int))), mu := true, f := Rep.fn fun (i j : Nat) => AV.int IntKind.u8 (List.getD (A (Subtype.val x5) ++ E (Int.toNat (↑x5.1 : Int))) i (0 : Int)) }])))) (.out (AV.osl (0) (1) (0) (List.length (A (Subtype.val x5)))) ([some { es := 1, n := List.length (A (Subtype.val x5)), mu := true, f := Rep.fn fun (i j : Nat) => AV.int IntKind.u8 (List.getD (A (Subtype.val x5)) i (0 : Int)) }]) (AV.osl (0 : Nat) (1 : Nat) (0 : Nat) (List.length (A n))) ([ilO IntKind.u8 (A n)]))))))))))
    (by kernel_rfl) ?_
  refine k_ff ?_
  refine k_req (by first | omega | (simp only [Int.toNat_natCast]; omega)) ?_
  refine k_ff ?_
  refine k_ff ?_
  refine k_gc (number_h (IntKind.wrap IntKind.u8 (3 : Int)) (IntKind.wrap IntKind.u64 (↑n : Int)) (by first | omega | exact hA _ (by omega) | (have q := hA (x5.1 + 1) (by omega); rw [hE] at q; exact q)) (by first | omega | exact hA _ (by omega) | (have q := hA (x5.1 + 1) (by omega); rw [hE] at q; exact q)) (4) (by first | omega | exact hA _ (by omega) | (have q := hA (x5.1 + 1) (by omega); rw [hE] at q; exact q)) (by first | omega | exact hA _ (by omega) | (have q := hA (x5.1 + 1) (by omega); rw [hE] at q; exact q))) ?_
  --LOOPINFO kept [44, 45] changed [0, 46] objects [184]
  refine k_loop (fun _ hs => hs.le (by repeat' (first | exact trivial | (first | exact Ent.refl _ | exact inc_ent (by omega) | exact Ent.nil rfl | exact Ent.of_eq (congrArg (AV.osl _ _ _) (by first | omega | (dsimp only; omega))) | exact Ent.of_eq (congrArg (AV.int _) (by first | omega | (dsimp only; omega)))) | refine And.intro ?_ ?_)) (⟨obl_eq l0 (fun i hi => by
                                                                                                     rw [e, hA0]
                                                                                                     exact enc1 (size := 4) hi), trivial⟩)) (fun x5 => ?_)
  refine k_br (fun h6 => ?_) (fun h6 => ?_)
  · have g6 := cnd_dec_t h6
    refine k_req (by first | omega | (simp only [Int.toNat_natCast]; omega)) ?_
    refine k_gc (hc (Int.toNat (↑x5.1 : Int)) (by first | omega | exact hA _ (by omega) | (have q := hA (x5.1 + 1) (by omega); rw [hE] at q; exact q)) (A (Subtype.val x5)) (by first | omega | exact hA _ (by omega) | (have q := hA (x5.1 + 1) (by omega); rw [hE] at q; exact q)) (by first | omega | exact hA _ (by omega) | (have q := hA (x5.1 + 1) (by omega); rw [hE] at q; exact q))) ?_
    exact k_again (⟨x5.1 + 1, by omega⟩) (fun _ hs => hs.le (⟨by first | exact Ent.refl _ | exact inc_ent (by omega) | exact Ent.nil rfl | exact Ent.of_eq (congrArg (AV.osl _ _ _) (by first | omega | (dsimp only; omega))) | exact Ent.of_eq (congrArg (AV.int _) (by first | omega | (dsimp only; omega))), by first | exact Ent.refl _ | exact inc_ent (by omega) | exact Ent.nil rfl | exact Ent.of_eq (congrArg (AV.osl _ _ _) (by first | omega | (dsimp only; omega))) | exact Ent.of_eq (congrArg (AV.int _) (by first | omega | (dsimp only; omega))), Ent.of_eq (congrArg (fun z => AV.osl 0 1 0 (List.length z)) (hE x5.1).symm), by first | exact Ent.refl _ | exact inc_ent (by omega) | exact Ent.nil rfl | exact Ent.of_eq (congrArg (AV.osl _ _ _) (by first | omega | (dsimp only; omega))) | exact Ent.of_eq (congrArg (AV.int _) (by first | omega | (dsimp only; omega))), trivial⟩) (⟨obl_cg (hE x5.1), trivial⟩)) (by first | omega | (dsimp only; omega) | (simp; omega))
  · have g6 := cnd_dec_f h6
    exact k_outg (Ent.of_eq (congrArg (fun z => AV.osl 0 1 0 (A z).length) (by omega))) (⟨obl_cg (congrArg A (by omega)), trivial⟩)

theorem write_c : ∀ (x : It) (l : List Int), l.length ≤ 16384 → (l ++ x.enc).length ≤ 16384 → Gives Tryd.prog gl0 71 [⟨1, l.length, true, .fn (ilF .u8 l)⟩] [.osl 0 1 0 l.length, x.av] (.osl 1 1 0 (l ++ x.enc).length) [none, ilO .u8 (l ++ x.enc)]
  | .int n, l, h, _ => write_int l n h
  | .byt n f, l, h, h' => write_byt l n f h (by rw [← wr_byt] at h'; omega)
  | .li n c, l, h, h' => by
    have hA : ∀ k, k ≤ n → (l ++ It.encP n c k).length ≤ 16384 := fun k hk => by
      have := It.encP_le n c hk
      rw [It.enc_li, List.length_append] at h'
      rw [List.length_append]
      omega
    exact write_lw l n c (fun i => (c i).enc) (fun k => l ++ It.encP n c k) h (by have := It.encP_len n c n; have := hA n (Nat.le_refl _); rw [List.length_append] at this; omega) (by rw [It.encP_zero]) (fun k => by rw [It.encP_succ, List.append_assoc]) hA
      (fun i hi l h h' => write_c (c i) l h h')

theorem write_n : ∀ x : It, x.enc.length ≤ 16384 → Gives Tryd.prog gl0 71 [] [.nsl, x.av] (.osl 0 1 0 x.enc.length) [ilO .u8 x.enc]
  | .int n, _ => write_int0 n
  | .byt n f, h => write_byt0 n f (by rw [byt_len] at h; omega)
  | .li n c, h => write_lw0 n c (fun i => (c i).enc) (It.encP n c) (by have := It.encP_len n c n; rw [It.enc_li] at h; omega) (It.encP_zero n c) (It.encP_succ n c) (fun k hk => Nat.le_trans (It.encP_le n c hk) h)
      (fun i _ l h h' => write_c (c i) l h h')

end Go.Proofs.YtmhipmiacghgeaaDoor

namespace Go.Proofs.YtmhipmiacghgeaaDoor
open Go Go.Am Go.Sp
set_option maxRecDepth 100000

theorem within1_w (x : It) (d : Int) (b : Bool) (hd : 0 < d ∧ d ≤ 8) (h : Pure Tryd.prog gl0 91 [x.av, .int .i64 (d - 1)] (.bool b)) : Pure Tryd.prog gl0 108 [x.av, .ipt 1 (atL [.int .i64 d])] (.bool (!b)) := by
  have hw : IntKind.wrap .i64 (d - 1) = d - 1 := wI (by omega) (by omega)
  rw [← hw] at h
  refine pure_sk (own := ow0) Tryd.func108 (by kernel_rfl) mixed (by kernel_rfl)
    (.sc (true) 91 ([AV.agg [AV.int IntKind.i64 (It.kind x), AV.int IntKind.i64 (It.num x), AV.isl (1) (It.nb x) fun (i x_1 : Nat) => AV.int IntKind.u8 (It.fb x i), AV.isl (4) (It.nl x) (It.row x)], AV.int IntKind.i64 (IntKind.wrap IntKind.i64 (d - (1 : Int)))]) (AV.bool b) (.out (AV.bool !b) [] (AV.bool !b) []))
    (by kernel_rfl) ?_
  refine k_sc (h) ?_
  exact k_out (Ent.refl _)

theorem indexI_w (n : Nat) (c : Nat → It) (d : Int) (p : Nat → Bool) (hn : n ≤ 1000) (hc : ∀ i, i < n → Pure Tryd.prog gl0 108 [(c i).av, .ipt 1 (atL [.int .i64 d])] (.bool (p i))) :
    Pure Tryd.prog gl0 118 [It.sl n c, .fn (.func 108) [] [.ipt 1 (atL [.int .i64 d])]] (.int .i64 (firstI p n 0)) := by
  refine pure_sk (own := ow0) Tryd.func118 (by kernel_rfl) mixed (by kernel_rfl)
    (.loop ({ x : Nat // x ≤ n ∧ (fun (i : Nat) => firstI p n (0 : Nat) = firstI p (n - i) i) x }) (fun (x : { x : Nat // x ≤ n ∧ (fun (i : Nat) => firstI p n (0 : Nat) = firstI p (n - i) i) x }) => mkSt [0, 1, 7, 8] [AV.isl (4) n fun (i j : Nat) => atL (It.cells (c i)) j, AV.fn (Fn.func (108 : FuncId)) [] [AV.ipt (1) (atL [AV.int IntKind.i64 d])], AV.int IntKind.i64 (↑n : Int), AV.int IntKind.i64 (↑(Subtype.val x) : Int)] []) (fun (x : { x : Nat // x ≤ n ∧ (fun (i : Nat) => firstI p n (0 : Nat) = firstI p (n - i) i) x }) => n - Subtype.val x) (⟨(0 : Nat), ⟨Nat.zero_le n, rfl⟩⟩) ([0, 1, 7, 8]) ([]) ([AV.isl (4) n fun (i j : Nat) => atL (It.cells (c i)) j, AV.fn (Fn.func (108 : FuncId)) [] [AV.ipt (1) (atL [AV.int IntKind.i64 d])], AV.int IntKind.i64 (↑n : Int), AV.int IntKind.i64 (0 : Int)]) ([]) (fun x0 => (.br (decide ((↑x0.1 : Int) < (↑n : Int))) (.req ((0 : Int) ≤ (↑x0.1 : Int) ∧ (↑x0.1 : Int) < (↑n : Int)) (.sc (true) 108 ([AV.agg [AV.int IntKind.i64 (It.kind (c (Int.toNat (↑x0.1 : Int)))), AV.int IntKind.i64 (It.num (c (Int.toNat (↑x0.1 : Int)))), AV.isl (1) (It.nb (c (Int.toNat (↑x0.1 : Int)))) fun (i x : Nat) => AV.int IntKind.u8 (It.fb (c (Int.toNat (↑x0.1 : Int))) i), AV.isl (4) (It.nl (c (Int.toNat (↑x0.1 : Int)))) (It.row (c (Int.toNat (↑x0.1 : Int))))], AV.ipt (1) (atL [AV.int IntKind.i64 d])]) (AV.bool (p (Int.toNat (↑x0.1 : Int)))) (.br (p (Int.toNat (↑x0.1 : Int))) (.out (AV.int IntKind.i64 (↑x0.1 : Int)) [] (AV.int IntKind.i64 (firstI p n (0 : Nat))) []) (.again (Again (0) (fun (x : { x : Nat // x ≤ n ∧ (fun (i : Nat) => firstI p n (0 : Nat) = firstI p (n - i) i) x }) => mkSt [0, 1, 7, 8] [AV.isl (4) n fun (i j : Nat) => atL (It.cells (c i)) j, AV.fn (Fn.func (108 : FuncId)) [] [AV.ipt (1) (atL [AV.int IntKind.i64 d])], AV.int IntKind.i64 (↑n : Int), AV.int IntKind.i64 (↑(Subtype.val x) : Int)] []) (fun (x : { x : Nat // x ≤ n ∧ (fun (i : Nat) => firstI p n (0 : Nat) = firstI p (n - i) i) x }) => n - Subtype.val x) x0) ([0, 1, 7, 8]) ([]) ([AV.isl (4) n fun (i j : Nat) => atL (It.cells (c i)) j, AV.fn (Fn.func (108 : FuncId)) [] [AV.ipt (1) (atL [AV.int IntKind.i64 d])], AV.int IntKind.i64 (↑n : Int), AV.int IntKind.i64 (IntKind.wrap IntKind.i64 ((↑x0.1 : Int) + (1 : Int)))]) ([]))))) (.out (AV.int IntKind.i64 (-1 : Int)) [] (AV.int IntKind.i64 (firstI p n (0 : Nat))) []))))
    (by kernel_rfl) ?_
  --LOOPINFO kept [0, 1, 7] changed [8] objects []
  refine k_loop (fun _ hs => hs.le (by repeat' (first | exact trivial | (first | exact Ent.refl _ | exact inc_ent (by omega) | exact Ent.nil rfl | exact Ent.of_eq (congrArg (AV.osl _ _ _) (by first | omega | (dsimp only; omega))) | exact Ent.of_eq (congrArg (AV.int _) (by first | omega | (dsimp only; omega)))) | refine And.intro ?_ ?_)) (trivial)) (fun x0 => ?_)
  try (have q0 := x0.2; dsimp only at q0)
  refine k_br (fun h1 => ?_) (fun h1 => ?_)
  · have g1 := cnd_dec_t h1
    refine k_req (by first | omega | (simp only [Int.toNat_natCast]; omega)) ?_
    refine k_sc (hc (Int.toNat (↑x0.1 : Int)) (by first | assumption | omega)) ?_
    refine k_br (fun h4 => ?_) (fun h4 => ?_)
    · have g4 := cnd_id_t h4
      try simp only [Int.toNat_natCast] at g4
      exact k_out (Ent.of_eq (congrArg _ (first_hit x0.2.2 (by omega) g4)))
    · have g4 := cnd_id_f h4
      try simp only [Int.toNat_natCast] at g4
      exact k_again (⟨x0.1 + 1, by omega, first_next x0.2.2 (by omega) g4⟩) (fun _ hs => hs.le (by repeat' (first | exact trivial | (first | exact Ent.refl _ | exact inc_ent (by omega) | exact Ent.nil rfl | exact Ent.of_eq (congrArg (AV.osl _ _ _) (by first | omega | (dsimp only; omega))) | exact Ent.of_eq (congrArg (AV.int _) (by first | omega | (dsimp only; omega)))) | refine And.intro ?_ ?_)) (trivial)) (by first | omega | (dsimp only; omega) | (simp; omega))
  · have g1 := cnd_dec_f h1
    exact k_out (Ent.of_eq (congrArg _ (first_miss x0.2.2 (by omega))))

theorem containsI_w (n : Nat) (c : Nat → It) (d : Int) (p : Nat → Bool) (hn : n ≤ 1000) (hc : ∀ i, i < n → Pure Tryd.prog gl0 108 [(c i).av, .ipt 1 (atL [.int .i64 d])] (.bool (p i))) :
    Pure Tryd.prog gl0 107 [It.sl n c, .fn (.func 108) [] [.ipt 1 (atL [.int .i64 d])]] (.bool (decide (firstI p n 0 ≥ 0))) := by
  refine pure_sk (own := ow0) Tryd.func107 (by kernel_rfl) mixed (by kernel_rfl)
    (.sc (true) 118 ([AV.isl (4) n fun (i j : Nat) => atL (It.cells (c i)) j, AV.fn (Fn.func (108 : FuncId)) [] [AV.ipt (1) (atL [AV.int IntKind.i64 d])]]) (AV.int IntKind.i64 (firstI p n (0 : Nat))) (.out (AV.bool (decide (firstI p n (0) ≥ (0 : Int)))) [] (AV.bool (decide (firstI p n (0 : Nat) ≥ (0 : Int)))) []))
    (by kernel_rfl) ?_
  refine k_sc ((indexI_w n c d p hn hc)) ?_
  exact k_out (Ent.refl _)

theorem within_int (n d : Int) : Pure Tryd.prog gl0 91 [.agg [.int .i64 1, .int .i64 n, bys 0 (fun _ => 0), .isl 4 0 (fun _ _ => .junk)], .int .i64 d] (.bool true) := by
  refine pure_sk (own := ow0) Tryd.func91 (by kernel_rfl) mixed (by kernel_rfl)
    (.tt (.out (AV.bool true) [] (AV.bool true) []))
    (by kernel_rfl) ?_
  refine k_tt ?_
  exact k_out (Ent.refl _)

theorem within_byt (n : Nat) (f : Nat → Int) (d : Int) : Pure Tryd.prog gl0 91 [.agg [.int .i64 2, .int .i64 0, bys n f, .isl 4 0 (fun _ _ => .junk)], .int .i64 d] (.bool true) := by
  refine pure_sk (own := ow0) Tryd.func91 (by kernel_rfl) mixed (by kernel_rfl)
    (.ff (.tt (.out (AV.bool true) [] (AV.bool true) [])))
    (by kernel_rfl) ?_
  refine k_ff ?_
  refine k_tt ?_
  exact k_out (Ent.refl _)

theorem within_lw (n : Nat) (c : Nat → It) (d : Int) (p : Nat → Bool) (hn : n < 9223372036854775808) (hc : 0 < d → n ≤ 1000 → Pure Tryd.prog gl0 107 [It.sl n c, .fn (.func 108) [] [.ipt 1 (atL [.int .i64 d])]] (.bool (decide (firstI p n 0 ≥ 0)))) :
    Pure Tryd.prog gl0 91 [.agg [.int .i64 3, .int .i64 0, bys 0 (fun _ => 0), It.sl n c], .int .i64 d] (.bool (decide (0 < d) && Nat.ble n 1000 && (List.range n).all (fun i => !p i))) := by
  refine pure_sk (own := ow0) Tryd.func91 (by kernel_rfl) mixed (by kernel_rfl)
    (.ff (.ff (.tt (.sc ((decide (d > (0 : Int)) && decide ((↑n : Int) ≤ (1000 : Int))) == true) 107 ([AV.isl (4) n fun (i j : Nat) => atL (It.cells (c i)) j, AV.fn (Fn.func (108 : Nat)) [] [AV.ipt (1) fun (k : Nat) => atL [AV.int IntKind.i64 d] k]]) (AV.bool (decide (firstI p n (0 : Nat) ≥ (0 : Int)))) (.out (AV.bool (decide (d > (0 : Int)) && decide ((↑n : Int) ≤ (1000 : Int)) && !decide (firstI p n (0) ≥ (0 : Int)))) [] (AV.bool (decide ((0 : Int) < d) && Nat.ble n (1000 : Nat) && List.all (List.range n) fun (i : Nat) => !p i)) [])))))
    (by kernel_rfl) ?_
  refine k_ff ?_
  refine k_ff ?_
  refine k_tt ?_
  refine k_scg (fun h3 => hc (by simp at h3; omega) (by simp at h3; omega)) ?_
  exact k_out (Ent.of_eq (congrArg _ (li_ok d n p)))

theorem within_c : ∀ (x : It) (d : Int), 0 ≤ d ∧ d ≤ 8 → x.enc.length ≤ 1099511627776 → Pure Tryd.prog gl0 91 [x.av, .int .i64 d] (.bool (x.okD d))
  | .int n, d, _, _ => within_int n d
  | .byt n f, d, _, _ => within_byt n f d
  | .li n c, d, hd, hn => by
    have h := within_lw n c d (fun i => !(c i).okD (d - 1)) (by have := It.encP_len n c n; rw [It.enc_li] at hn; omega) (fun h1 h2 => containsI_w n c d _ h2 (fun i hi => within1_w (c i) d _ ⟨h1, hd.2⟩ (within_c (c i) (d - 1) (by omega) (by have := It.enc_child (c := c) hi; omega))))
    simp only [Bool.not_not] at h
    exact h

theorem valid_c (x : It) (h : x.enc.length ≤ 1099511627776) : Pure Tryd.prog gl0 70 [.agg [.int .i64 x.kind, .int .i64 x.num, bys x.nb x.fb, .isl 4 x.nl x.row]] (.bool (x.okD 8)) := by
  have hw := within_c x 8 (by omega) h
  refine pure_sk (own := ow0) Tryd.func70 (by kernel_rfl) mixed (by kernel_rfl)
    (.sc (true) 91 ([AV.agg [AV.int IntKind.i64 (It.kind x), AV.int IntKind.i64 (It.num x), AV.isl (1) (It.nb x) fun (i x_1 : Nat) => AV.int IntKind.u8 (It.fb x i), AV.isl (4) (It.nl x) (It.row x)], AV.int IntKind.i64 (8 : Int)]) (AV.bool (It.okD x (8 : Int))) (.out (AV.bool (It.okD x (8 : Int))) [] (AV.bool (It.okD x (8 : Int))) []))
    (by kernel_rfl) ?_
  refine k_sc (hw) ?_
  exact k_out (Ent.refl _)

/-- The encoding of an item that is not too long. -/
theorem encode_c (x : It) (h : x.okD 8 = true) (hl : x.enc.length ≤ 16384) : Pure Tryd.prog gl0 43 [x.av] (.tup [il .u8 x.enc, .int .i64 0]) := by
  have hv := valid_c x (by omega)
  rw [h] at hv
  have hn := write_n x hl
  refine pure_sk (own := ow3) Tryd.func43 (by kernel_rfl) mixed (by kernel_rfl)
    (.sc (true) 70 ([AV.agg [AV.int IntKind.i64 (It.kind x), AV.int IntKind.i64 (It.num x), AV.isl (1) (It.nb x) fun (i x_1 : Nat) => AV.int IntKind.u8 (It.fb x i), AV.isl (4) (It.nl x) (It.row x)]]) (AV.bool true) (.ff (.gc 71 ([]) ([AV.nsl, AV.agg [AV.int IntKind.i64 (It.kind x), AV.int IntKind.i64 (It.num x), AV.isl (1) (It.nb x) fun (i x_1 : Nat) => AV.int IntKind.u8 (It.fb x i), AV.isl (4) (It.nl x) (It.row x)]]) (AV.osl (0 : Nat) (1 : Nat) (0 : Nat) (List.length (It.enc x))) ([ilO IntKind.u8 (It.enc x)]) (.br (decide ((↑(List.length (It.enc x)) : Int) > (16384 : Int))) (.out (AV.tup [AV.nsl, AV.int IntKind.i64 (5 : Int)]) [] (AV.tup [il IntKind.u8 (It.enc x), AV.int IntKind.i64 (0 : Int)]) []) (.out (AV.tup [AV.isl (1) (List.length (It.enc x)) fun (r k : Nat) => AV.int IntKind.u8 (List.getD (It.enc x) (r + 0) (0 : Int)), AV.int IntKind.i64 (0 : Int)]) [] (AV.tup [il IntKind.u8 (It.enc x), AV.int IntKind.i64 (0 : Int)]) [])))))
    (by kernel_rfl) ?_
  refine k_sc (hv) ?_
  refine k_ff ?_
  refine k_gc (hn) ?_
  refine k_br (fun h3 => ?_) (fun h3 => ?_)
  · have g3 := cnd_dec_t h3
    exact k_out ((by exfalso; omega))
  · have g3 := cnd_dec_f h3
    exact k_out (Ent.of_eq (by first | rfl | simp_all))

theorem ints_c (l : List Int) (hl : l.length ≤ 1000000) : Pure Tryd.prog gl0 47 [il .i64 l] (intsI l).av := by
  refine pure_sk (own := ow0) Tryd.func47 (by kernel_rfl) mixed (by kernel_rfl)
    (.loop ({ x : Nat // x ≤ List.length l }) (fun (x : { x : Nat // x ≤ List.length l }) => mkSt [2, 3, 7, 8, 9] [AV.own (0) (4) (0) (0) (4), AV.own (1) (4) (0) (0) (4), AV.isl (1) (List.length l) fun (i x : Nat) => AV.int IntKind.i64 (List.getD l i (0 : Int)), AV.int IntKind.i64 (↑(List.length l) : Int), AV.int IntKind.i64 (↑(Subtype.val x) : Int)] [some { es := 4, n := 1, mu := true, f := Rep.lst [[AV.int IntKind.i64 (0 : Int), AV.int IntKind.i64 (0 : Int), AV.nsl, AV.nsl]] }, some { es := (4 : Nat), n := (1 : Nat), mu := true, f := Rep.lst [[AV.int IntKind.i64 (3 : Int), AV.int IntKind.i64 (0 : Int), AV.nsl, AV.osl (2 : Nat) (4 : Nat) (0 : Nat) (Subtype.val x)]] }, some { es := (4 : Nat), n := Subtype.val x, mu := true, f := Rep.row fun (i : Nat) => It.cells (It.int (List.getD l i (0 : Int))) }]) (fun (x : { x : Nat // x ≤ List.length l }) => List.length l - Subtype.val x) (⟨(0 : Nat), Nat.zero_le (List.length l)⟩) ([2, 3, 7, 8, 9]) ([0, 16, 1082]) ([AV.own (0) (4) (0) (0) (4), AV.own (1) (4) (0) (0) (4), AV.isl (1) (List.length l) fun (i x : Nat) => AV.int IntKind.i64 (List.getD l i (0 : Int)), AV.int IntKind.i64 (↑(List.length l) : Int), AV.int IntKind.i64 (0 : Int)]) ([some { es := 4, n := 1, mu := true, f := Rep.lst [[AV.int IntKind.i64 (0 : Int), AV.int IntKind.i64 (0 : Int), AV.nsl, AV.nsl]] }, some { es := 4, n := 1, mu := true, f := Rep.lst [[AV.int IntKind.i64 (3 : Int), AV.int IntKind.i64 (0 : Int), AV.nsl, AV.nsl]] }, some { es := 4, n := 0, mu := true, f := Rep.lst [] }]) (fun x0 => (.br (decide ((↑x0.1 : Int) < (↑(List.length l) : Int))) (.req ((0 : Int) ≤ (↑x0.1 : Int) ∧ (↑x0.1 : Int) < (↑(List.length l) : Int)) (.req ((x0.1 + 1) * 64 ≤ 140737488355328) (.again (Again (0) (fun (x : { x : Nat // x ≤ List.length l }) => mkSt [2, 3, 7, 8, 9] [AV.own (0) (4) (0) (0) (4), AV.own (1) (4) (0) (0) (4), AV.isl (1) (List.length l) fun (i x : Nat) => AV.int IntKind.i64 (List.getD l i (0 : Int)), AV.int IntKind.i64 (↑(List.length l) : Int), AV.int IntKind.i64 (↑(Subtype.val x) : Int)] [some { es := 4, n := 1, mu := true, f := Rep.lst [[AV.int IntKind.i64 (0 : Int), AV.int IntKind.i64 (0 : Int), AV.nsl, AV.nsl]] }, some { es := (4 : Nat), n := (1 : Nat), mu := true, f := Rep.lst [[AV.int IntKind.i64 (3 : Int), AV.int IntKind.i64 (0 : Int), AV.nsl, AV.osl (2 : Nat) (4 : Nat) (0 : Nat) (Subtype.val x)]] }, some { es := (4 : Nat), n := Subtype.val x, mu := true, f := Rep.row fun (i : Nat) => It.cells (It.int (List.getD l i (0 : Int))) }]) (fun (x : { x : Nat // x ≤ List.length l }) => List.length l - Subtype.val x) x0) ([2, 3, 7, 8, 9]) ([0, 1, 75]) ([AV.own (0) (4) (0) (0) (4), AV.own (1) (4) (0) (0) (4), AV.isl (1) (List.length l) fun (i x : Nat) => AV.int IntKind.i64 (List.getD l i (0 : Int)), AV.int IntKind.i64 (↑(List.length l) : Int), AV.int IntKind.i64 (IntKind.wrap IntKind.i64 ((↑x0.1 : Int) + (1 : Int)))]) ([some { es := 4, n := 1, mu := true, f := Rep.lst [[AV.int IntKind.i64 (0 : Int), AV.int IntKind.i64 (0 : Int), AV.nsl, AV.nsl]] }, some { es := 4, n := 1, mu := true, f := Rep.lst [[AV.int IntKind.i64 (3 : Int), AV.int IntKind.i64 (0 : Int), AV.nsl, AV.osl (2) (4) (0) (x0.1 + 1)]] }, some { es := 4, n := x0.1 + 1, mu := true, f := Rep.cat x0.1 (Rep.row fun (i : Nat) => [AV.int IntKind.i64 (It.kind (It.int (List.getD l i (0 : Int)))), AV.int IntKind.i64 (It.num (It.int (List.getD l i (0 : Int)))), AV.isl (1) (0) fun (i_1 x : Nat) => AV.int IntKind.u8 (It.fb (It.int (List.getD l i (0 : Int))) i_1), AV.isl (4) (0) (It.row (It.int (List.getD l i (0 : Int))))]) (Rep.lst [[AV.int IntKind.i64 (1 : Int), AV.int IntKind.i64 (List.getD l (Int.toNat (↑(Subtype.val x0) : Int)) (0 : Int)), AV.nsl, AV.nsl]]) }])))) (.out (AV.agg [AV.int IntKind.i64 (3 : Int), AV.int IntKind.i64 (0 : Int), AV.nsl, AV.isl (4) x0.1 fun (r k : Nat) => atL [AV.int IntKind.i64 (It.kind (It.int (List.getD l (r + 0) (0 : Int)))), AV.int IntKind.i64 (It.num (It.int (List.getD l (r + 0) (0 : Int)))), AV.isl (1) (0) fun (i x : Nat) => AV.int IntKind.u8 (It.fb (It.int (List.getD l (r + 0) (0 : Int))) i), AV.isl (4) (0) (It.row (It.int (List.getD l (r + 0) (0 : Int))))] k]) [] (It.av (intsI l)) []))))
    (by kernel_rfl) ?_
  --LOOPINFO kept [2, 3, 7, 8] changed [9] objects [0, 16, 1082]
  --LOOPINFO   obj 0: some { es := 4, n := 1, mu := true, f := Rep.lst [[AV.int IntKind.i64 (0 : Int), AV.int IntKind.i64 (0 : Int), AV.nsl, AV.nsl]] }
  refine k_loop (fun _ hs => hs.le (by repeat' (first | exact trivial | (first | exact Ent.refl _ | exact inc_ent (by omega) | exact Ent.nil rfl | exact Ent.of_eq (congrArg (AV.osl _ _ _) (by first | omega | (dsimp only; omega))) | exact Ent.of_eq (congrArg (AV.int _) (by first | omega | (dsimp only; omega)))) | refine And.intro ?_ ?_)) (by repeat' (first | exact trivial | (first | exact ObEnt.refl _ | exact ObEnt.junk | exact ObEnt.zero | exact ObEnt.push rfl rfl | exact ObEnt.pushRow rfl | exact ObEnt.len (by omega) | exact ObEnt.row (by repeat' (first | exact trivial | (first | exact Ent.refl _ | exact inc_ent (by omega) | exact Ent.nil rfl | exact Ent.of_eq (congrArg (AV.osl _ _ _) (by first | omega | (dsimp only; omega))) | exact Ent.of_eq (congrArg (AV.int _) (by first | omega | (dsimp only; omega)))) | refine And.intro ?_ ?_))) | refine And.intro ?_ ?_))) (fun x0 => ?_)
  try (have q0 := x0.2; dsimp only at q0)
  refine k_br (fun h1 => ?_) (fun h1 => ?_)
  · have g1 := cnd_dec_t h1
    refine k_req (by first | omega | (simp only [Int.toNat_natCast]; omega)) ?_
    refine k_req (by first | omega | (simp only [Int.toNat_natCast]; omega)) ?_
    exact k_again (⟨x0.1 + 1, by omega⟩) (fun _ hs => hs.le (by repeat' (first | exact trivial | (first | exact Ent.refl _ | exact inc_ent (by omega) | exact Ent.nil rfl | exact Ent.of_eq (congrArg (AV.osl _ _ _) (by first | omega | (dsimp only; omega))) | exact Ent.of_eq (congrArg (AV.int _) (by first | omega | (dsimp only; omega)))) | refine And.intro ?_ ?_)) (⟨by first | exact ObEnt.refl _ | exact ObEnt.junk | exact ObEnt.zero | exact ObEnt.push rfl rfl | exact ObEnt.pushRow rfl | exact ObEnt.len (by omega) | exact ObEnt.row (by repeat' (first | exact trivial | (first | exact Ent.refl _ | exact inc_ent (by omega) | exact Ent.nil rfl | exact Ent.of_eq (congrArg (AV.osl _ _ _) (by first | omega | (dsimp only; omega))) | exact Ent.of_eq (congrArg (AV.int _) (by first | omega | (dsimp only; omega)))) | refine And.intro ?_ ?_)), by first | exact ObEnt.refl _ | exact ObEnt.junk | exact ObEnt.zero | exact ObEnt.push rfl rfl | exact ObEnt.pushRow rfl | exact ObEnt.len (by omega) | exact ObEnt.row (by repeat' (first | exact trivial | (first | exact Ent.refl _ | exact inc_ent (by omega) | exact Ent.nil rfl | exact Ent.of_eq (congrArg (AV.osl _ _ _) (by first | omega | (dsimp only; omega))) | exact Ent.of_eq (congrArg (AV.int _) (by first | omega | (dsimp only; omega)))) | refine And.intro ?_ ?_)), int_push rfl rfl, trivial⟩)) (by first | omega | (dsimp only; omega) | (simp; omega))
  · have g1 := cnd_dec_f h1
    exact k_out (ints_out (by omega))

theorem rints_c (l : List Int) (hl : l.length ≤ 1000000) : Pure Tryd.prog gl0 28 [il .i64 l] (intsI l).av := by
  refine pure_sk (own := ow0) Tryd.func28 (by kernel_rfl) mixed (by kernel_rfl)
    (.loop ({ x : Nat // x ≤ List.length l }) (fun (x : { x : Nat // x ≤ List.length l }) => mkSt [0, 2, 3, 4] [AV.isl (1) (List.length l) fun (i x : Nat) => AV.int IntKind.i64 (List.getD l i (0 : Int)), AV.own (0) (4) (0) (0) (4), AV.own (1) (4) (0) (0) (4), AV.int IntKind.i64 (↑(Subtype.val x) : Int)] [some { es := 4, n := 1, mu := true, f := Rep.lst [[AV.int IntKind.i64 (0 : Int), AV.int IntKind.i64 (0 : Int), AV.nsl, AV.nsl]] }, some { es := (4 : Nat), n := (1 : Nat), mu := true, f := Rep.lst [[AV.int IntKind.i64 (3 : Int), AV.int IntKind.i64 (0 : Int), AV.nsl, AV.osl (2 : Nat) (4 : Nat) (0 : Nat) (Subtype.val x)]] }, some { es := (4 : Nat), n := Subtype.val x, mu := true, f := Rep.row fun (i : Nat) => It.cells (It.int (List.getD l i (0 : Int))) }]) (fun (x : { x : Nat // x ≤ List.length l }) => List.length l - Subtype.val x) (⟨(0 : Nat), Nat.zero_le (List.length l)⟩) ([0, 2, 3, 4]) ([0, 16, 1066]) ([AV.isl (1) (List.length l) fun (i x : Nat) => AV.int IntKind.i64 (List.getD l i (0 : Int)), AV.own (0) (4) (0) (0) (4), AV.own (1) (4) (0) (0) (4), AV.int IntKind.i64 (0 : Int)]) ([some { es := 4, n := 1, mu := true, f := Rep.lst [[AV.int IntKind.i64 (0 : Int), AV.int IntKind.i64 (0 : Int), AV.nsl, AV.nsl]] }, some { es := 4, n := 1, mu := true, f := Rep.lst [[AV.int IntKind.i64 (3 : Int), AV.int IntKind.i64 (0 : Int), AV.nsl, AV.nsl]] }, some { es := 4, n := 0, mu := true, f := Rep.lst [] }]) (fun x0 => (.br (decide ((↑x0.1 : Int) < (↑(List.length l) : Int))) (.req ((0 : Int) ≤ (↑x0.1 : Int) ∧ (↑x0.1 : Int) < (↑(List.length l) : Int)) (.req ((x0.1 + 1) * 64 ≤ 140737488355328) (.again (Again (0) (fun (x : { x : Nat // x ≤ List.length l }) => mkSt [0, 2, 3, 4] [AV.isl (1) (List.length l) fun (i x : Nat) => AV.int IntKind.i64 (List.getD l i (0 : Int)), AV.own (0) (4) (0) (0) (4), AV.own (1) (4) (0) (0) (4), AV.int IntKind.i64 (↑(Subtype.val x) : Int)] [some { es := 4, n := 1, mu := true, f := Rep.lst [[AV.int IntKind.i64 (0 : Int), AV.int IntKind.i64 (0 : Int), AV.nsl, AV.nsl]] }, some { es := (4 : Nat), n := (1 : Nat), mu := true, f := Rep.lst [[AV.int IntKind.i64 (3 : Int), AV.int IntKind.i64 (0 : Int), AV.nsl, AV.osl (2 : Nat) (4 : Nat) (0 : Nat) (Subtype.val x)]] }, some { es := (4 : Nat), n := Subtype.val x, mu := true, f := Rep.row fun (i : Nat) => It.cells (It.int (List.getD l i (0 : Int))) }]) (fun (x : { x : Nat // x ≤ List.length l }) => List.length l - Subtype.val x) x0) ([0, 2, 3, 4]) ([0, 1, 99]) ([AV.isl (1) (List.length l) fun (i x : Nat) => AV.int IntKind.i64 (List.getD l i (0 : Int)), AV.own (0) (4) (0) (0) (4), AV.own (1) (4) (0) (0) (4), AV.int IntKind.i64 (IntKind.wrap IntKind.i64 ((↑x0.1 : Int) + (1 : Int)))]) ([some { es := 4, n := 1, mu := true, f := Rep.lst [[AV.int IntKind.i64 (0 : Int), AV.int IntKind.i64 (0 : Int), AV.nsl, AV.nsl]] }, some { es := 4, n := 1, mu := true, f := Rep.lst [[AV.int IntKind.i64 (3 : Int), AV.int IntKind.i64 (0 : Int), AV.nsl, AV.osl (2) (4) (0) (x0.1 + 1)]] }, some { es := 4, n := x0.1 + 1, mu := true, f := Rep.cat x0.1 (Rep.row fun (i : Nat) => [AV.int IntKind.i64 (It.kind (It.int (List.getD l i (0 : Int)))), AV.int IntKind.i64 (It.num (It.int (List.getD l i (0 : Int)))), AV.isl (1) (0) fun (i_1 x : Nat) => AV.int IntKind.u8 (It.fb (It.int (List.getD l i (0 : Int))) i_1), AV.isl (4) (0) (It.row (It.int (List.getD l i (0 : Int))))]) (Rep.lst [[AV.int IntKind.i64 (1 : Int), AV.int IntKind.i64 (List.getD l (Int.toNat (↑(Subtype.val x0) : Int)) (0 : Int)), AV.nsl, AV.nsl]]) }])))) (.out (AV.agg [AV.int IntKind.i64 (3 : Int), AV.int IntKind.i64 (0 : Int), AV.nsl, AV.isl (4) x0.1 fun (r k : Nat) => atL [AV.int IntKind.i64 (It.kind (It.int (List.getD l (r + 0) (0 : Int)))), AV.int IntKind.i64 (It.num (It.int (List.getD l (r + 0) (0 : Int)))), AV.isl (1) (0) fun (i x : Nat) => AV.int IntKind.u8 (It.fb (It.int (List.getD l (r + 0) (0 : Int))) i), AV.isl (4) (0) (It.row (It.int (List.getD l (r + 0) (0 : Int))))] k]) [] (It.av (intsI l)) []))))
    (by kernel_rfl) ?_
  --LOOPINFO kept [0, 2, 3] changed [4] objects [0, 16, 1066]
  --LOOPINFO   obj 0: some { es := 4, n := 1, mu := true, f := Rep.lst [[AV.int IntKind.i64 (0 : Int), AV.int IntKind.i64 (0 : Int), AV.nsl, AV.nsl]] }
  refine k_loop (fun _ hs => hs.le (by repeat' (first | exact trivial | (first | exact Ent.refl _ | exact inc_ent (by omega) | exact Ent.nil rfl | exact Ent.of_eq (congrArg (AV.osl _ _ _) (by first | omega | (dsimp only; omega))) | exact Ent.of_eq (congrArg (AV.int _) (by first | omega | (dsimp only; omega)))) | refine And.intro ?_ ?_)) (by repeat' (first | exact trivial | (first | exact ObEnt.refl _ | exact ObEnt.junk | exact ObEnt.zero | exact ObEnt.push rfl rfl | exact ObEnt.pushRow rfl | exact ObEnt.len (by omega) | exact ObEnt.row (by repeat' (first | exact trivial | (first | exact Ent.refl _ | exact inc_ent (by omega) | exact Ent.nil rfl | exact Ent.of_eq (congrArg (AV.osl _ _ _) (by first | omega | (dsimp only; omega))) | exact Ent.of_eq (congrArg (AV.int _) (by first | omega | (dsimp only; omega)))) | refine And.intro ?_ ?_))) | refine And.intro ?_ ?_))) (fun x0 => ?_)
  try (have q0 := x0.2; dsimp only at q0)
  refine k_br (fun h1 => ?_) (fun h1 => ?_)
  · have g1 := cnd_dec_t h1
    refine k_req (by first | omega | (simp only [Int.toNat_natCast]; omega)) ?_
    refine k_req (by first | omega | (simp only [Int.toNat_natCast]; omega)) ?_
    exact k_again (⟨x0.1 + 1, by omega⟩) (fun _ hs => hs.le (by repeat' (first | exact trivial | (first | exact Ent.refl _ | exact inc_ent (by omega) | exact Ent.nil rfl | exact Ent.of_eq (congrArg (AV.osl _ _ _) (by first | omega | (dsimp only; omega))) | exact Ent.of_eq (congrArg (AV.int _) (by first | omega | (dsimp only; omega)))) | refine And.intro ?_ ?_)) (⟨by first | exact ObEnt.refl _ | exact ObEnt.junk | exact ObEnt.zero | exact ObEnt.push rfl rfl | exact ObEnt.pushRow rfl | exact ObEnt.len (by omega) | exact ObEnt.row (by repeat' (first | exact trivial | (first | exact Ent.refl _ | exact inc_ent (by omega) | exact Ent.nil rfl | exact Ent.of_eq (congrArg (AV.osl _ _ _) (by first | omega | (dsimp only; omega))) | exact Ent.of_eq (congrArg (AV.int _) (by first | omega | (dsimp only; omega)))) | refine And.intro ?_ ?_)), by first | exact ObEnt.refl _ | exact ObEnt.junk | exact ObEnt.zero | exact ObEnt.push rfl rfl | exact ObEnt.pushRow rfl | exact ObEnt.len (by omega) | exact ObEnt.row (by repeat' (first | exact trivial | (first | exact Ent.refl _ | exact inc_ent (by omega) | exact Ent.nil rfl | exact Ent.of_eq (congrArg (AV.osl _ _ _) (by first | omega | (dsimp only; omega))) | exact Ent.of_eq (congrArg (AV.int _) (by first | omega | (dsimp only; omega)))) | refine And.intro ?_ ?_)), int_push rfl rfl, trivial⟩)) (by first | omega | (dsimp only; omega) | (simp; omega))
  · have g1 := cnd_dec_f h1
    exact k_out (ints_out (by omega))

theorem ints_2 (a b : Int) : Pure Tryd.prog gl0 47 [.isl 1 2 fun r k => atL (List.getD [[.int .i64 a], [.int .i64 b]] r []) k] (intsI [a, b]).av :=
  (ints_c [a, b] (by simp)).via ⟨il_rows rfl rfl, trivial⟩
theorem rints_2 (a b : Int) : Pure Tryd.prog gl0 28 [.isl 1 2 fun r k => atL (List.getD [[.int .i64 a], [.int .i64 b]] r []) k] (intsI [a, b]).av :=
  (rints_c [a, b] (by simp)).via ⟨il_rows rfl rfl, trivial⟩

theorem rbytes31_c (f : Nat → Int) : Pure Tryd.prog gl0 26 [.agg (u8c f)] (It.byt 32 f).av := by
  refine pure_sk (own := ow0) Tryd.func26 (by kernel_rfl) mixed (by kernel_rfl)
    (.loop ({ x : Nat // x ≤ (32 : Nat) }) (fun (x : { x : Nat // x ≤ (32 : Nat) }) => mkSt [1, 2, 3, 4] [AV.own (0) (32) (0) (0) (32), AV.own (1) (4) (0) (0) (4), AV.own (2) (4) (0) (0) (4), AV.int IntKind.i64 (↑(Subtype.val x) : Int)] [some { es := 32, n := 1, mu := true, f := Rep.lst [u8c f] }, some { es := 4, n := 1, mu := true, f := Rep.lst [[AV.int IntKind.i64 (0 : Int), AV.int IntKind.i64 (0 : Int), AV.nsl, AV.nsl]] }, some { es := (4 : Nat), n := (1 : Nat), mu := true, f := Rep.lst [[AV.int IntKind.i64 (2 : Int), AV.int IntKind.i64 (0 : Int), AV.osl (3 : Nat) (1 : Nat) (0 : Nat) (Subtype.val x), AV.nsl]] }, some { es := (1 : Nat), n := Subtype.val x, mu := true, f := Rep.fn fun (i x : Nat) => AV.int IntKind.u8 (f i) }]) (fun (x : { x : Nat // x ≤ (32 : Nat) }) => (32 : Nat) - Subtype.val x) (⟨(0 : Nat), Nat.zero_le (32 : Nat)⟩) ([1, 2, 3, 4]) ([0, 8, 24, 307]) ([AV.own (0) (32) (0) (0) (32), AV.own (1) (4) (0) (0) (4), AV.own (2) (4) (0) (0) (4), AV.int IntKind.i64 (0 : Int)]) ([some { es := 32, n := 1, mu := true, f := Rep.lst [u8c f] }, some { es := 4, n := 1, mu := true, f := Rep.lst [[AV.int IntKind.i64 (0 : Int), AV.int IntKind.i64 (0 : Int), AV.nsl, AV.nsl]] }, some { es := 4, n := 1, mu := true, f := Rep.lst [[AV.int IntKind.i64 (2 : Int), AV.int IntKind.i64 (0 : Int), AV.nsl, AV.nsl]] }, some { es := 1, n := 0, mu := true, f := Rep.lst [] }]) (fun x0 => (.br (decide ((↑x0.1 : Int) < (32 : Int))) (.req ((0 : Int) ≤ (↑x0.1 : Int) ∧ (↑x0.1 : Int) < (↑(32) : Int)) (.req ((x0.1 + 1) * 1 ≤ 140737488355328) (.again (Again (0) (fun (x : { x : Nat // x ≤ (32 : Nat) }) => mkSt [1, 2, 3, 4] [AV.own (0) (32) (0) (0) (32), AV.own (1) (4) (0) (0) (4), AV.own (2) (4) (0) (0) (4), AV.int IntKind.i64 (↑(Subtype.val x) : Int)] [some { es := 32, n := 1, mu := true, f := Rep.lst [u8c f] }, some { es := 4, n := 1, mu := true, f := Rep.lst [[AV.int IntKind.i64 (0 : Int), AV.int IntKind.i64 (0 : Int), AV.nsl, AV.nsl]] }, some { es := (4 : Nat), n := (1 : Nat), mu := true, f := Rep.lst [[AV.int IntKind.i64 (2 : Int), AV.int IntKind.i64 (0 : Int), AV.osl (3 : Nat) (1 : Nat) (0 : Nat) (Subtype.val x), AV.nsl]] }, some { es := (1 : Nat), n := Subtype.val x, mu := true, f := Rep.fn fun (i x : Nat) => AV.int IntKind.u8 (f i) }]) (fun (x : { x : Nat // x ≤ (32 : Nat) }) => (32 : Nat) - Subtype.val x) x0) ([1, 2, 3, 4]) ([0, 1, 2, 68]) ([AV.own (0) (32) (0) (0) (32), AV.own (1) (4) (0) (0) (4), AV.own (2) (4) (0) (0) (4), AV.int IntKind.i64 (IntKind.wrap IntKind.i64 ((↑x0.1 : Int) + (1 : Int)))]) ([some { es := 32, n := 1, mu := true, f := Rep.lst [u8c f] }, some { es := 4, n := 1, mu := true, f := Rep.lst [[AV.int IntKind.i64 (0 : Int), AV.int IntKind.i64 (0 : Int), AV.nsl, AV.nsl]] }, some { es := 4, n := 1, mu := true, f := Rep.lst [[AV.int IntKind.i64 (2 : Int), AV.int IntKind.i64 (0 : Int), AV.osl (3) (1) (0) (x0.1 + 1), AV.nsl]] }, some { es := 1, n := x0.1 + 1, mu := true, f := Rep.fn fun (i j : Nat) => AV.int IntKind.u8 (bif Nat.blt i x0.1 then f i else intOfAV (atL [AV.int IntKind.u8 (intOfAV (Rep.at (Ob.f (Ob.seen { es := 32, n := 1, mu := true, f := Rep.lst [u8c f] })) (0) (0 + Int.toNat (↑(Subtype.val x0) : Int))))] j)) }])))) (.out (AV.agg [AV.int IntKind.i64 (2 : Int), AV.int IntKind.i64 (0 : Int), AV.isl (1) x0.1 fun (r k : Nat) => AV.int IntKind.u8 (f (r + 0)), AV.nsl]) [] (It.av (It.byt (32 : Nat) f)) []))))
    (by kernel_rfl) ?_
  --LOOPINFO kept [1, 2, 3] changed [4] objects [0, 8, 24, 307]
  --LOOPINFO   obj 0: some { es := 32, n := 1, mu := true, f := Rep.lst [u8c f] }
  --LOOPINFO   obj 1: some { es := 4, n := 1, mu := true, f := Rep.lst [[AV.int IntKind.i64 (0 : Int), AV.int IntKind.i64 (0 : Int), AV.nsl, AV.nsl]] }
  refine k_loop (fun _ hs => hs.le (by repeat' (first | exact trivial | (first | exact Ent.refl _ | exact inc_ent (by omega) | exact Ent.nil rfl | exact Ent.of_eq (congrArg (AV.osl _ _ _) (by first | omega | (dsimp only; omega))) | exact Ent.of_eq (congrArg (AV.int _) (by first | omega | (dsimp only; omega)))) | refine And.intro ?_ ?_)) (by repeat' (first | exact trivial | (first | exact ObEnt.refl _ | exact ObEnt.junk | exact ObEnt.zero | exact ObEnt.push rfl rfl | exact ObEnt.pushRow rfl | exact ObEnt.len (by omega) | exact ObEnt.row (by repeat' (first | exact trivial | (first | exact Ent.refl _ | exact inc_ent (by omega) | exact Ent.nil rfl | exact Ent.of_eq (congrArg (AV.osl _ _ _) (by first | omega | (dsimp only; omega))) | exact Ent.of_eq (congrArg (AV.int _) (by first | omega | (dsimp only; omega)))) | refine And.intro ?_ ?_))) | refine And.intro ?_ ?_))) (fun x0 => ?_)
  try (have q0 := x0.2; dsimp only at q0)
  refine k_br (fun h1 => ?_) (fun h1 => ?_)
  · have g1 := cnd_dec_t h1
    refine k_req (by first | omega | (simp only [Int.toNat_natCast]; omega)) ?_
    refine k_req (by first | omega | (simp only [Int.toNat_natCast]; omega)) ?_
    exact k_again (⟨x0.1 + 1, by omega⟩) (fun _ hs => hs.le (by repeat' (first | exact trivial | (first | exact Ent.refl _ | exact inc_ent (by omega) | exact Ent.nil rfl | exact Ent.of_eq (congrArg (AV.osl _ _ _) (by first | omega | (dsimp only; omega))) | exact Ent.of_eq (congrArg (AV.int _) (by first | omega | (dsimp only; omega)))) | refine And.intro ?_ ?_)) (⟨by first | exact ObEnt.refl _ | exact ObEnt.junk | exact ObEnt.zero | exact ObEnt.push rfl rfl | exact ObEnt.pushRow rfl | exact ObEnt.len (by omega) | exact ObEnt.row (by repeat' (first | exact trivial | (first | exact Ent.refl _ | exact inc_ent (by omega) | exact Ent.nil rfl | exact Ent.of_eq (congrArg (AV.osl _ _ _) (by first | omega | (dsimp only; omega))) | exact Ent.of_eq (congrArg (AV.int _) (by first | omega | (dsimp only; omega)))) | refine And.intro ?_ ?_)), by first | exact ObEnt.refl _ | exact ObEnt.junk | exact ObEnt.zero | exact ObEnt.push rfl rfl | exact ObEnt.pushRow rfl | exact ObEnt.len (by omega) | exact ObEnt.row (by repeat' (first | exact trivial | (first | exact Ent.refl _ | exact inc_ent (by omega) | exact Ent.nil rfl | exact Ent.of_eq (congrArg (AV.osl _ _ _) (by first | omega | (dsimp only; omega))) | exact Ent.of_eq (congrArg (AV.int _) (by first | omega | (dsimp only; omega)))) | refine And.intro ?_ ?_)), by first | exact ObEnt.refl _ | exact ObEnt.junk | exact ObEnt.zero | exact ObEnt.push rfl rfl | exact ObEnt.pushRow rfl | exact ObEnt.len (by omega) | exact ObEnt.row (by repeat' (first | exact trivial | (first | exact Ent.refl _ | exact inc_ent (by omega) | exact Ent.nil rfl | exact Ent.of_eq (congrArg (AV.osl _ _ _) (by first | omega | (dsimp only; omega))) | exact Ent.of_eq (congrArg (AV.int _) (by first | omega | (dsimp only; omega)))) | refine And.intro ?_ ?_)), ObEnt.pushF (F := f) rfl (by show intOfAV (atL (u8c f) (0 + x0.1)) = f x0.1; rw [Nat.zero_add, u8c_at (by omega)]), trivial⟩)) (by first | omega | (dsimp only; omega) | (simp; omega))
  · have g1 := cnd_dec_f h1
    exact k_out (byts_out (by omega))

end Go.Proofs.YtmhipmiacghgeaaDoor

namespace Go.Proofs.YtmhipmiacghgeaaDoor
open Go Go.Am Go.Sp
set_option maxRecDepth 100000

theorem ints_4 (a0 a1 a2 a3 : Int) : Pure Tryd.prog gl0 47 [.isl 1 4 fun r k => atL (List.getD [[.int .i64 a0], [.int .i64 a1], [.int .i64 a2], [.int .i64 a3]] r []) k] (intsI [a0, a1, a2, a3]).av := (ints_c [a0, a1, a2, a3] (by simp)).via ⟨il_rows rfl rfl, trivial⟩
theorem ints_5 (a0 a1 a2 a3 a4 : Int) : Pure Tryd.prog gl0 47 [.isl 1 5 fun r k => atL (List.getD [[.int .i64 a0], [.int .i64 a1], [.int .i64 a2], [.int .i64 a3], [.int .i64 a4]] r []) k] (intsI [a0, a1, a2, a3, a4]).av := (ints_c [a0, a1, a2, a3, a4] (by simp)).via ⟨il_rows rfl rfl, trivial⟩
theorem rints_4 (a0 a1 a2 a3 : Int) : Pure Tryd.prog gl0 28 [.isl 1 4 fun r k => atL (List.getD [[.int .i64 a0], [.int .i64 a1], [.int .i64 a2], [.int .i64 a3]] r []) k] (intsI [a0, a1, a2, a3]).av := (rints_c [a0, a1, a2, a3] (by simp)).via ⟨il_rows rfl rfl, trivial⟩
theorem rints_5 (a0 a1 a2 a3 a4 : Int) : Pure Tryd.prog gl0 28 [.isl 1 5 fun r k => atL (List.getD [[.int .i64 a0], [.int .i64 a1], [.int .i64 a2], [.int .i64 a3], [.int .i64 a4]] r []) k] (intsI [a0, a1, a2, a3, a4]).av := (rints_c [a0, a1, a2, a3, a4] (by simp)).via ⟨il_rows rfl rfl, trivial⟩

theorem cloneU_n : Pure Tryd.prog gl0 72 [.nsl] .nsl := by
  refine pure_sk (own := ow0) Tryd.func72 (by kernel_rfl) mixed (by kernel_rfl)
    (.tt (.out (AV.nsl) [] (AV.nsl) []))
    (by kernel_rfl) ?_
  refine k_tt ?_
  exact k_out (Ent.refl _)
theorem cloneU_s (f : Nat → Int) (n : Nat) (hn : n ≤ 1099511627776) : Pure Tryd.prog gl0 72 [.nn (bys n f)] (bys n f) := by
  refine pure_sk (own := ow0) Tryd.func72 (by kernel_rfl) mixed (by kernel_rfl)
    (.ff (.req ((0 + n) * 1 ≤ 140737488355328) (.out (AV.isl (1) (0 + n) fun (r k : Nat) => AV.int IntKind.u8 (f (r + 0))) [] (bys n f) [])))
    (by kernel_rfl) ?_
  refine k_ff ?_
  refine k_req (by first | omega | (simp only [Int.toNat_natCast]; omega)) ?_
  exact k_out (bys_eq (by omega) (fun i _ => rfl))
theorem cloneU_c (f : Nat → Int) (n : Nat) (hn : n ≤ 1099511627776) : Pure Tryd.prog gl0 72 [bys n f] (bys n f) :=
  Gives.nilSplit [] [] 1 n _ (fun h => by subst h; exact cloneU_n.ent Ent.nsl) (cloneU_s f n hn)

theorem bytes_c (f : Nat → Int) : Pure Tryd.prog gl0 45 [.agg (u8c f)] (It.byt 32 f).av := by
  refine pure_sk (own := ow0) Tryd.func45 (by kernel_rfl) mixed (by kernel_rfl)
    (.dc (true) 72 ([AV.isl (1) (32) fun (r x : Nat) => AV.int IntKind.u8 (intOfAV (atL (u8c f) (0 + (0 + r))))]) (bys (32) fun (i : Nat) => intOfAV (atL (u8c f) (0 + (0 + i)))) (.out (AV.agg [AV.int IntKind.i64 (2 : Int), AV.int IntKind.i64 (0 : Int), AV.isl (1) (32) fun (i x : Nat) => AV.int IntKind.u8 (intOfAV (atL (u8c f) (0 + (0 + i)))), AV.nsl]) [] (It.av (It.byt (32 : Nat) f)) []))
    (by kernel_rfl) ?_
  refine k_dc (cloneU_c (fun (i : Nat) => intOfAV (atL (u8c f) (0 + (0 + i)))) (32) (by first | assumption | omega)) ?_
  exact k_out (Ent.agg ⟨Ent.refl _, Ent.refl _, bys_eq rfl (fun i hi => by rw [Nat.zero_add, Nat.zero_add]; exact u8c_at hi), Ent.nsl, trivial⟩)

theorem list_c (n : Nat) (f : Nat → Nat → AV) : Pure Tryd.prog gl0 44 [.isl 4 n f] (.agg [.int .i64 3, .int .i64 0, .nsl, .isl 4 n f]) := by
  refine pure_sk (own := ow0) Tryd.func44 (by kernel_rfl) mixed (by kernel_rfl)
    (.out (AV.agg [AV.int IntKind.i64 (3 : Int), AV.int IntKind.i64 (0 : Int), AV.nsl, AV.isl (4) n f]) [] (AV.agg [AV.int IntKind.i64 (3 : Int), AV.int IntKind.i64 (0 : Int), AV.nsl, AV.isl (4 : Nat) n f]) [])
    (by kernel_rfl) ?_
  exact k_out (Ent.refl _)

def ow4 : FuncId → Option (List Bool) := fun f => bif Nat.beq f 93 then some [true, false] else bif Nat.beq f 94 then some [true, false] else none

theorem wints_5 (a0 a1 a2 a3 a4 : Int) : Gives Tryd.prog gl0 93 [⟨1, 1, true, .lst [[.nsl]]⟩] [.own 0 1 0 0 1, .isl 1 5 fun r k => atL (List.getD [[.int .i64 a0], [.int .i64 a1], [.int .i64 a2], [.int .i64 a3], [.int .i64 a4]] r []) k] .junk [some ⟨1, 1, true, .lst [[.osl 1 4 0 1]]⟩, some ⟨4, 1, true, .lst [(intsI [a0, a1, a2, a3, a4]).cells]⟩] := by
  refine gives_sk (own := ow0) (hand := true) Tryd.func93 (by kernel_rfl) mixed (by kernel_rfl)
    (.dc (true) 47 ([AV.isl (1) (5) fun (r k : Nat) => atL (List.getD [[AV.int IntKind.i64 a0], [AV.int IntKind.i64 a1], [AV.int IntKind.i64 a2], [AV.int IntKind.i64 a3], [AV.int IntKind.i64 a4]] r []) k]) (It.av (intsI [a0, a1, a2, a3, a4])) (.req (64 ≤ 140737488355328) (.req ((0 : Int) ≤ (0 : Int) ∧ (0 : Int) < (↑(1) : Int)) (.out (AV.tup []) ([some { es := 1, n := 1, mu := true, f := Rep.lst [[AV.osl (1) (4) (0) (1)]] }, some { es := 4, n := 1, mu := true, f := Rep.lst [[AV.int IntKind.i64 (It.kind (intsI [a0, a1, a2, a3, a4])), AV.int IntKind.i64 (It.num (intsI [a0, a1, a2, a3, a4])), AV.isl (1) (0) fun (i x : Nat) => AV.int IntKind.u8 (It.fb (intsI [a0, a1, a2, a3, a4]) i), AV.isl (4) (5) (It.row (intsI [a0, a1, a2, a3, a4]))]] }]) (AV.junk) ([some { es := (1 : Nat), n := (1 : Nat), mu := true, f := Rep.lst [[AV.osl (1 : Nat) (4 : Nat) (0 : Nat) (1 : Nat)]] }, some { es := (4 : Nat), n := (1 : Nat), mu := true, f := Rep.lst [It.cells (intsI [a0, a1, a2, a3, a4])] }])))))
    (by kernel_rfl) ?_
  refine k_dc (ints_5 (a0) (a1) (a2) (a3) (a4)) ?_
  refine k_req (by first | omega | (simp only [Int.toNat_natCast]; omega)) ?_
  refine k_req (by first | omega | (simp only [Int.toNat_natCast]; omega)) ?_
  exact k_outg (Ent.junk _) (by repeat' (first | exact trivial | (first | exact ObEnt.refl _ | exact ObEnt.junk | exact ObEnt.zero | exact ObEnt.push rfl rfl | exact ObEnt.pushRow rfl | exact ObEnt.len (by omega) | exact ObEnt.row (by repeat' (first | exact trivial | (first | exact Ent.refl _ | exact inc_ent (by omega) | exact Ent.nil rfl | exact Ent.of_eq (congrArg (AV.osl _ _ _) (by first | omega | (dsimp only; omega))) | exact Ent.of_eq (congrArg (AV.int _) (by first | omega | (dsimp only; omega)))) | refine And.intro ?_ ?_))) | refine And.intro ?_ ?_))

theorem wbytes_1 (x : It) (f : Nat → Int) : Gives Tryd.prog gl0 94 [⟨1, 1, true, .lst [[.osl 1 4 0 1]]⟩, ⟨4, 1, true, .lst [x.cells]⟩] [.own 0 1 0 0 1, bys 32 f] .junk [some ⟨1, 1, true, .lst [[.osl 2 4 0 2]]⟩, none, some ⟨4, 2, true, .lst [x.cells, (It.byt 32 f).cells]⟩] := by
  refine gives_sk (own := ow0) (hand := true) Tryd.func94 (by kernel_rfl) mixed (by kernel_rfl)
    (.dc (true) 72 ([AV.isl (1) (32) fun (i x : Nat) => AV.int IntKind.u8 (f i)]) (bys (32) f) (.req (128 ≤ 140737488355328) (.req ((0 : Int) ≤ (↑(1) : Int) ∧ (↑(1) : Int) < (↑(2) : Int)) (.out (AV.tup []) ([some { es := 1, n := 1, mu := true, f := Rep.lst [[AV.osl (2) (4) (0) (2)]] }, none, some { es := 4, n := 2, mu := true, f := Rep.lst [[AV.int IntKind.i64 (It.kind x), AV.int IntKind.i64 (It.num x), AV.isl (1) (It.nb x) fun (i x_1 : Nat) => AV.int IntKind.u8 (It.fb x i), AV.isl (4) (It.nl x) (It.row x)], [AV.int IntKind.i64 (2 : Int), AV.int IntKind.i64 (0 : Int), AV.isl (1) (32) fun (i x : Nat) => AV.int IntKind.u8 (f i), AV.nsl]] }]) (AV.junk) ([some { es := (1 : Nat), n := (1 : Nat), mu := true, f := Rep.lst [[AV.osl (2 : Nat) (4 : Nat) (0 : Nat) (2 : Nat)]] }, none, some { es := (4 : Nat), n := (2 : Nat), mu := true, f := Rep.lst [It.cells x, It.cells (It.byt (32 : Nat) f)] }])))))
    (by kernel_rfl) ?_
  refine k_dc (cloneU_c (f) (32) (by first | assumption | omega)) ?_
  refine k_req (by first | omega | (simp only [Int.toNat_natCast]; omega)) ?_
  refine k_req (by first | omega | (simp only [Int.toNat_natCast]; omega)) ?_
  exact k_outg (Ent.junk _) (⟨ObEnt.refl _, row2_ob (EntL.refl _) (byt_row 32 f), trivial⟩)

theorem wints_2 (x y : It) (a0 a1 a2 a3 : Int) : Gives Tryd.prog gl0 93 [⟨1, 1, true, .lst [[.osl 1 4 0 2]]⟩, ⟨4, 2, true, .lst [x.cells, y.cells]⟩] [.own 0 1 0 0 1, .isl 1 4 fun r k => atL (List.getD [[.int .i64 a0], [.int .i64 a1], [.int .i64 a2], [.int .i64 a3]] r []) k] .junk [some ⟨1, 1, true, .lst [[.osl 2 4 0 3]]⟩, none, some ⟨4, 3, true, .lst [x.cells, y.cells, (intsI [a0, a1, a2, a3]).cells]⟩] := by
  refine gives_sk (own := ow0) (hand := true) Tryd.func93 (by kernel_rfl) mixed (by kernel_rfl)
    (.dc (true) 47 ([AV.isl (1) (4) fun (r k : Nat) => atL (List.getD [[AV.int IntKind.i64 a0], [AV.int IntKind.i64 a1], [AV.int IntKind.i64 a2], [AV.int IntKind.i64 a3]] r []) k]) (It.av (intsI [a0, a1, a2, a3])) (.req (192 ≤ 140737488355328) (.req ((0 : Int) ≤ (↑(2) : Int) ∧ (↑(2) : Int) < (↑(3) : Int)) (.out (AV.tup []) ([some { es := 1, n := 1, mu := true, f := Rep.lst [[AV.osl (2) (4) (0) (3)]] }, none, some { es := 4, n := 3, mu := true, f := Rep.lst [[AV.int IntKind.i64 (It.kind x), AV.int IntKind.i64 (It.num x), AV.isl (1) (It.nb x) fun (i x_1 : Nat) => AV.int IntKind.u8 (It.fb x i), AV.isl (4) (It.nl x) (It.row x)], [AV.int IntKind.i64 (It.kind y), AV.int IntKind.i64 (It.num y), AV.isl (1) (It.nb y) fun (i x : Nat) => AV.int IntKind.u8 (It.fb y i), AV.isl (4) (It.nl y) (It.row y)], [AV.int IntKind.i64 (It.kind (intsI [a0, a1, a2, a3])), AV.int IntKind.i64 (It.num (intsI [a0, a1, a2, a3])), AV.isl (1) (0) fun (i x : Nat) => AV.int IntKind.u8 (It.fb (intsI [a0, a1, a2, a3]) i), AV.isl (4) (4) (It.row (intsI [a0, a1, a2, a3]))]] }]) (AV.junk) ([some { es := (1 : Nat), n := (1 : Nat), mu := true, f := Rep.lst [[AV.osl (2 : Nat) (4 : Nat) (0 : Nat) (3 : Nat)]] }, none, some { es := (4 : Nat), n := (3 : Nat), mu := true, f := Rep.lst [It.cells x, It.cells y, It.cells (intsI [a0, a1, a2, a3])] }])))))
    (by kernel_rfl) ?_
  refine k_dc (ints_4 (a0) (a1) (a2) (a3)) ?_
  refine k_req (by first | omega | (simp only [Int.toNat_natCast]; omega)) ?_
  refine k_req (by first | omega | (simp only [Int.toNat_natCast]; omega)) ?_
  exact k_outg (Ent.junk _) (by repeat' (first | exact trivial | (first | exact ObEnt.refl _ | exact ObEnt.junk | exact ObEnt.zero | exact ObEnt.push rfl rfl | exact ObEnt.pushRow rfl | exact ObEnt.len (by omega) | exact ObEnt.row (by repeat' (first | exact trivial | (first | exact Ent.refl _ | exact inc_ent (by omega) | exact Ent.nil rfl | exact Ent.of_eq (congrArg (AV.osl _ _ _) (by first | omega | (dsimp only; omega))) | exact Ent.of_eq (congrArg (AV.int _) (by first | omega | (dsimp only; omega)))) | refine And.intro ?_ ?_))) | refine And.intro ?_ ?_))

theorem citem_w (c : Coin) : Pure Tryd.prog gl0 73 [c.av] c.it.av := by
  refine pure_sk (own := ow4) Tryd.func73 (by kernel_rfl) mixed (by kernel_rfl)
    (.gc 93 ([{ es := 1, n := 1, mu := true, f := Rep.lst [[AV.nsl]] }]) ([AV.own (0) (1) (0) (0) (1), AV.isl (1) (5) fun (r k : Nat) => atL (List.getD [[AV.int IntKind.i64 c.1], [AV.int IntKind.i64 c.2], [AV.int IntKind.i64 c.3], [AV.int IntKind.i64 c.4], [AV.int IntKind.i64 c.5]] (r + 0) []) k]) (AV.junk) ([some { es := (1 : Nat), n := (1 : Nat), mu := true, f := Rep.lst [[AV.osl (1 : Nat) (4 : Nat) (0 : Nat) (1 : Nat)]] }, some { es := (4 : Nat), n := (1 : Nat), mu := true, f := Rep.lst [It.cells (intsI [c.1, c.2, c.3, c.4, c.5])] }]) (.gc 94 ([{ es := 1, n := 1, mu := true, f := Rep.lst [[AV.osl (1) (4) (0) (1)]] }, { es := 4, n := 1, mu := true, f := Rep.lst [[AV.int IntKind.i64 (It.kind (intsI [c.1, c.2, c.3, c.4, c.5])), AV.int IntKind.i64 (It.num (intsI [c.1, c.2, c.3, c.4, c.5])), AV.isl (1) (0) fun (i x : Nat) => AV.int IntKind.u8 (It.fb (intsI [c.1, c.2, c.3, c.4, c.5]) i), AV.isl (4) (5) (It.row (intsI [c.1, c.2, c.3, c.4, c.5]))]] }]) ([AV.own (0) (1) (0) (0) (1), AV.isl (1) (32) fun (r x : Nat) => AV.int IntKind.u8 (intOfAV (atL (Coin.cells c) (5 + (0 + r))))]) (AV.junk) ([some { es := (1 : Nat), n := (1 : Nat), mu := true, f := Rep.lst [[AV.osl (2 : Nat) (4 : Nat) (0 : Nat) (2 : Nat)]] }, none, some { es := (4 : Nat), n := (2 : Nat), mu := true, f := Rep.lst [It.cells (intsI [c.1, c.2, c.3, c.4, c.5]), It.cells (It.byt (32 : Nat) fun (i : Nat) => intOfAV (atL (Coin.cells c) (5 + (0 + i))))] }]) (.gc 93 ([{ es := 1, n := 1, mu := true, f := Rep.lst [[AV.osl (1) (4) (0) (2)]] }, { es := 4, n := 2, mu := true, f := Rep.lst [[AV.int IntKind.i64 (It.kind (intsI [c.1, c.2, c.3, c.4, c.5])), AV.int IntKind.i64 (It.num (intsI [c.1, c.2, c.3, c.4, c.5])), AV.isl (1) (0) fun (i x : Nat) => AV.int IntKind.u8 (It.fb (intsI [c.1, c.2, c.3, c.4, c.5]) i), AV.isl (4) (5) (It.row (intsI [c.1, c.2, c.3, c.4, c.5]))], [AV.int IntKind.i64 (It.kind (It.byt (32 : Nat) fun (i : Nat) => intOfAV (atL (Coin.cells c) (5 + (0 + i))))), AV.int IntKind.i64 (It.num (It.byt (32 : Nat) fun (i : Nat) => intOfAV (atL (Coin.cells c) (5 + (0 + i))))), AV.isl (1) (32) fun (i x : Nat) => AV.int IntKind.u8 (It.fb (It.byt (32) fun (i : Nat) => intOfAV (atL (Coin.cells c) (5 + (0 + i)))) i), AV.isl (4) (0) (It.row (It.byt (32) fun (i : Nat) => intOfAV (atL (Coin.cells c) (5 + (0 + i)))))]] }]) ([AV.own (0) (1) (0) (0) (1), AV.isl (1) (4) fun (r k : Nat) => atL (List.getD [[AV.int IntKind.i64 c.7], [AV.int IntKind.i64 c.8], [AV.int IntKind.i64 c.9], [AV.int IntKind.i64 c.10]] (r + 0) []) k]) (AV.junk) ([some { es := (1 : Nat), n := (1 : Nat), mu := true, f := Rep.lst [[AV.osl (2 : Nat) (4 : Nat) (0 : Nat) (3 : Nat)]] }, none, some { es := (4 : Nat), n := (3 : Nat), mu := true, f := Rep.lst [It.cells (intsI [c.1, c.2, c.3, c.4, c.5]), It.cells (It.byt (32 : Nat) fun (i : Nat) => intOfAV (atL (Coin.cells c) (5 + (0 + i)))), It.cells (intsI [c.7, c.8, c.9, c.10])] }]) (.out (AV.agg [AV.int IntKind.i64 (3 : Int), AV.int IntKind.i64 (0 : Int), AV.nsl, AV.isl (4) (3) fun (r k : Nat) => atL (List.getD [[AV.int IntKind.i64 (It.kind (intsI [c.1, c.2, c.3, c.4, c.5])), AV.int IntKind.i64 (It.num (intsI [c.1, c.2, c.3, c.4, c.5])), AV.isl (1) (0) fun (i x : Nat) => AV.int IntKind.u8 (It.fb (intsI [c.1, c.2, c.3, c.4, c.5]) i), AV.isl (4) (5) (It.row (intsI [c.1, c.2, c.3, c.4, c.5]))], [AV.int IntKind.i64 (It.kind (It.byt (32) fun (i : Nat) => intOfAV (atL (Coin.cells c) (5 + (0 + i))))), AV.int IntKind.i64 (It.num (It.byt (32) fun (i : Nat) => intOfAV (atL (Coin.cells c) (5 + (0 + i))))), AV.isl (1) (32) fun (i x : Nat) => AV.int IntKind.u8 (It.fb (It.byt (32) fun (i : Nat) => intOfAV (atL (Coin.cells c) (5 + (0 + i)))) i), AV.isl (4) (0) (It.row (It.byt (32) fun (i : Nat) => intOfAV (atL (Coin.cells c) (5 + (0 + i)))))], [AV.int IntKind.i64 (It.kind (intsI [c.7, c.8, c.9, c.10])), AV.int IntKind.i64 (It.num (intsI [c.7, c.8, c.9, c.10])), AV.isl (1) (0) fun (i x : Nat) => AV.int IntKind.u8 (It.fb (intsI [c.7, c.8, c.9, c.10]) i), AV.isl (4) (4) (It.row (intsI [c.7, c.8, c.9, c.10]))]] (r + 0) []) k]) [] (It.av (Coin.it c)) []))))
    (by kernel_rfl) ?_
  refine k_gc (wints_5 (c.1) (c.2) (c.3) (c.4) (c.5)) ?_
  refine k_gc (wbytes_1 (intsI [c.1, c.2, c.3, c.4, c.5]) (fun (i : Nat) => intOfAV (atL (Coin.cells c) (5 + (0 + i))))) ?_
  refine k_gc (wints_2 (intsI [c.1, c.2, c.3, c.4, c.5]) (It.byt (32 : Nat) fun (i : Nat) => intOfAV (atL (Coin.cells c) (5 + (0 + i)))) (c.7) (c.8) (c.9) (c.10)) ?_
  exact k_out (li3_out (EntL.refl _) ⟨Ent.refl _, Ent.refl _, bys_eq rfl (fun i hi => by
                                                                                                     show intOfAV (atL c.cells (5 + (0 + i))) = c.root i
                                                                                                     rw [Nat.zero_add]
                                                                                                     exact c.root_at hi), Ent.refl _, trivial⟩ (EntL.refl _))

theorem ritem_w (c : Coin) : Pure Tryd.prog gl0 52 [c.av] c.it.av := by
  refine pure_sk (own := ow4) Tryd.func52 (by kernel_rfl) mixed (by kernel_rfl)
    (.dc (true) 28 ([AV.isl (1) (5) fun (r k : Nat) => atL (List.getD [[AV.int IntKind.i64 c.1], [AV.int IntKind.i64 c.2], [AV.int IntKind.i64 c.3], [AV.int IntKind.i64 c.4], [AV.int IntKind.i64 c.5]] (r + 0) []) k]) (It.av (intsI [c.1, c.2, c.3, c.4, c.5])) (.dc (true) 26 ([AV.agg (u8c c.6)]) (It.av (It.byt (32 : Nat) c.6)) (.dc (true) 28 ([AV.isl (1) (4) fun (r k : Nat) => atL (List.getD [[AV.int IntKind.i64 c.7], [AV.int IntKind.i64 c.8], [AV.int IntKind.i64 c.9], [AV.int IntKind.i64 c.10]] (r + 0) []) k]) (It.av (intsI [c.7, c.8, c.9, c.10])) (.out (AV.agg [AV.int IntKind.i64 (3 : Int), AV.int IntKind.i64 (0 : Int), AV.nsl, AV.isl (4) (3) fun (r k : Nat) => atL (List.getD [[AV.int IntKind.i64 (It.kind (intsI [c.1, c.2, c.3, c.4, c.5])), AV.int IntKind.i64 (It.num (intsI [c.1, c.2, c.3, c.4, c.5])), AV.isl (1) (0) fun (i x : Nat) => AV.int IntKind.u8 (It.fb (intsI [c.1, c.2, c.3, c.4, c.5]) i), AV.isl (4) (5) (It.row (intsI [c.1, c.2, c.3, c.4, c.5]))], [AV.int IntKind.i64 (It.kind (It.byt (32) c.6)), AV.int IntKind.i64 (It.num (It.byt (32) c.6)), AV.isl (1) (32) fun (i x : Nat) => AV.int IntKind.u8 (It.fb (It.byt (32) c.6) i), AV.isl (4) (0) (It.row (It.byt (32) c.6))], [AV.int IntKind.i64 (It.kind (intsI [c.7, c.8, c.9, c.10])), AV.int IntKind.i64 (It.num (intsI [c.7, c.8, c.9, c.10])), AV.isl (1) (0) fun (i x : Nat) => AV.int IntKind.u8 (It.fb (intsI [c.7, c.8, c.9, c.10]) i), AV.isl (4) (4) (It.row (intsI [c.7, c.8, c.9, c.10]))]] (r + 0) []) k]) [] (It.av (Coin.it c)) []))))
    (by kernel_rfl) ?_
  refine k_dc (rints_5 (c.1) (c.2) (c.3) (c.4) (c.5)) ?_
  refine k_dc (rbytes31_c (c.6)) ?_
  refine k_dc (rints_4 (c.7) (c.8) (c.9) (c.10)) ?_
  exact k_out (li3_out (EntL.refl _) (EntL.refl _) (EntL.refl _))

end Go.Proofs.YtmhipmiacghgeaaDoor

namespace Go.Proofs.YtmhipmiacghgeaaDoor
open Go Go.Am Go.Sp
set_option maxRecDepth 100000

theorem node_c (d l i : Int) : Pure Tryd.prog gl0 19 [.int .i64 d, .agg [.int .i64 l, .int .i64 i]] (.bool (nodeB d l i)) := by
  refine pure_sk (own := ow0) Tryd.func19 (by kernel_rfl) mixed (by kernel_rfl)
    (.req (((decide (d ≥ (0 : Int)) && decide (d ≤ (5 : Int)) && decide (l ≥ (0 : Int)) && decide (l ≤ d) && decide (i ≥ (0 : Int))) == true) = true → (0 : Int) ≤ l) (.out (AV.bool (decide (d ≥ (0 : Int)) && decide (d ≤ (5 : Int)) && decide (l ≥ (0 : Int)) && decide (l ≤ d) && decide (i ≥ (0 : Int)) && decide (i < IntKind.wrap IntKind.i64 ((1 : Int) * (2 : Int) ^ min (Int.toNat l) (64))))) [] (AV.bool (nodeB d l i)) []))
    (by kernel_rfl) ?_
  refine k_req (fun hr => by have hr := (cnd_eqt_t (cnd_and_t (cnd_and_t (cnd_and_t (cnd_and_t cnd_dec_t cnd_dec_t) cnd_dec_t) cnd_dec_t) cnd_dec_t)) hr; first | omega | (simp only [Int.toNat_natCast] at *; omega)) ?_
  exact k_out (Ent.of_eq (congrArg _ (node_m d l i)))

theorem span_c (d l i : Int) : Pure Tryd.prog gl0 6 [.int .i64 d, .agg [.int .i64 l, .int .i64 i]] (.tup [.int .i64 (spanA d l i), .int .i64 (spanZ d l i), .int .i64 (spanE d l i)]) := by
  refine pure_sk (own := ow0) Tryd.func6 (by kernel_rfl) mixed (by kernel_rfl)
    (.br (decide (d < (0 : Int)) || decide (d > (5 : Int))) (.out (AV.tup [AV.int IntKind.i64 (0 : Int), AV.int IntKind.i64 (0 : Int), AV.int IntKind.i64 (1 : Int)]) [] (AV.tup [AV.int IntKind.i64 (spanA d l i), AV.int IntKind.i64 (spanZ d l i), AV.int IntKind.i64 (spanE d l i)]) []) (.sc (true) 19 ([AV.int IntKind.i64 d, AV.agg [AV.int IntKind.i64 l, AV.int IntKind.i64 i]]) (AV.bool (nodeB d l i)) (.br (!nodeB d l i) (.out (AV.tup [AV.int IntKind.i64 (0 : Int), AV.int IntKind.i64 (0 : Int), AV.int IntKind.i64 (2 : Int)]) [] (AV.tup [AV.int IntKind.i64 (spanA d l i), AV.int IntKind.i64 (spanZ d l i), AV.int IntKind.i64 (spanE d l i)]) []) (.req ((0 : Int) ≤ IntKind.wrap IntKind.i64 (d - l)) (.out (AV.tup [AV.int IntKind.i64 (IntKind.wrap IntKind.i64 (i * IntKind.wrap IntKind.i64 ((1 : Int) * (2 : Int) ^ min (Int.toNat (IntKind.wrap IntKind.i64 (d - l))) (64)))), AV.int IntKind.i64 (IntKind.wrap IntKind.i64 (IntKind.wrap IntKind.i64 (i + (1 : Int)) * IntKind.wrap IntKind.i64 ((1 : Int) * (2 : Int) ^ min (Int.toNat (IntKind.wrap IntKind.i64 (d - l))) (64)))), AV.int IntKind.i64 (0 : Int)]) [] (AV.tup [AV.int IntKind.i64 (spanA d l i), AV.int IntKind.i64 (spanZ d l i), AV.int IntKind.i64 (spanE d l i)]) [])))))
    (by kernel_rfl) ?_
  refine k_br (fun h0 => ?_) (fun h0 => ?_)
  · have g0 := (cnd_or_t cnd_dec_t cnd_dec_t) h0
    exact k_out (Ent.of_eq (by obtain ⟨a, b, c⟩ := span_1 (l := l) (i := i) h0; rw [a, b, c]))
  · have g0 := (cnd_or_f cnd_dec_f cnd_dec_f) h0
    refine k_sc (node_c (d) (l) (i)) ?_
    refine k_br (fun h3 => ?_) (fun h3 => ?_)
    · have g3 := (cnd_not_t cnd_id_f) h3
      exact k_out (Ent.of_eq (by obtain ⟨a, b, c⟩ := span_2 h0 h3; rw [a, b, c]))
    · have g3 := (cnd_not_f cnd_id_t) h3
      refine k_req ((span_3 h3).2.2.2) ?_
      exact k_out (Ent.of_eq (by obtain ⟨a, b, c, _⟩ := span_3 h3; rw [a, b, c]))

theorem rplace_c (d l i : Int) : Pure Tryd.prog gl0 20 [.int .i64 d, .int .i64 l, .int .i64 i] (.bool (placeB d l i)) := by
  refine pure_sk (own := ow0) Tryd.func20 (by kernel_rfl) mixed (by kernel_rfl)
    (.req (((decide (l ≥ (0 : Int)) && decide (l ≤ d) && decide (i ≥ (0 : Int))) == true) = true → (0 : Int) ≤ l) (.out (AV.bool (decide (l ≥ (0 : Int)) && decide (l ≤ d) && decide (i ≥ (0 : Int)) && decide (i < IntKind.wrap IntKind.i64 ((1 : Int) * (2 : Int) ^ min (Int.toNat l) (64))))) [] (AV.bool (placeB d l i)) []))
    (by kernel_rfl) ?_
  refine k_req (fun hr => by have hr := (cnd_eqt_t (cnd_and_t (cnd_and_t cnd_dec_t cnd_dec_t) cnd_dec_t)) hr; first | omega | (simp only [Int.toNat_natCast] at *; omega)) ?_
  exact k_out (Ent.refl _)

theorem rnode_c (d l i : Int) : Pure Tryd.prog gl0 7 [.int .i64 d, .agg [.int .i64 l, .int .i64 i]] (.bool (nodeB d l i)) := by
  refine pure_sk (own := ow0) Tryd.func7 (by kernel_rfl) mixed (by kernel_rfl)
    (.sc ((decide (d ≥ (0 : Int)) && decide (d ≤ (5 : Int))) == true) 20 ([AV.int IntKind.i64 d, AV.int IntKind.i64 l, AV.int IntKind.i64 i]) (AV.bool (placeB d l i)) (.out (AV.bool (decide (d ≥ (0 : Int)) && decide (d ≤ (5 : Int)) && placeB d l i)) [] (AV.bool (nodeB d l i)) []))
    (by kernel_rfl) ?_
  refine k_scg (fun h0 => rplace_c (d) (l) (i)) ?_
  exact k_out (Ent.of_eq (congrArg _ (place_node d l i)))

theorem context_c (x : Cxt) : Pure Tryd.prog gl0 22 [x.av] (.bool (ctxB x.time x.number)) := by
  refine pure_sk (own := ow0) Tryd.func22 (by kernel_rfl) mixed (by kernel_rfl)
    (.out (AV.bool (decide (x.2 ≥ (0 : Int)) && decide (x.2 ≤ (1099511627776 : Int)) && decide (x.3 ≥ (0 : Int)) && decide (x.3 ≤ (1073741824 : Int)))) [] (AV.bool (ctxB (Cxt.time x) (Cxt.number x))) [])
    (by kernel_rfl) ?_
  exact k_out (Ent.refl _)

theorem rctx_c (x : Cxt) : Pure Tryd.prog gl0 12 [x.av] (.bool (ctxB x.time x.number)) := by
  refine pure_sk (own := ow0) Tryd.func12 (by kernel_rfl) mixed (by kernel_rfl)
    (.out (AV.bool (decide (x.2 ≥ (0 : Int)) && decide (x.2 ≤ (1099511627776 : Int)) && decide (x.3 ≥ (0 : Int)) && decide (x.3 ≤ (1073741824 : Int)))) [] (AV.bool (ctxB (Cxt.time x) (Cxt.number x))) [])
    (by kernel_rfl) ?_
  exact k_out (Ent.refl _)

theorem rspan_c (d l i : Int) (h : nodeB d l i = true) : Pure Tryd.prog gl0 8 [.int .i64 d, .agg [.int .i64 l, .int .i64 i]] (.tup [.int .i64 (spanA d l i), .int .i64 (spanZ d l i)]) := by
  refine pure_sk (own := ow0) Tryd.func8 (by kernel_rfl) mixed (by kernel_rfl)
    (.req ((0 : Int) ≤ IntKind.wrap IntKind.u64 (IntKind.wrap IntKind.i64 (d - l))) (.out (AV.tup [AV.int IntKind.i64 (IntKind.wrap IntKind.i64 (i * IntKind.wrap IntKind.i64 ((1 : Int) * (2 : Int) ^ min (Int.toNat (IntKind.wrap IntKind.u64 (IntKind.wrap IntKind.i64 (d - l)))) (64)))), AV.int IntKind.i64 (IntKind.wrap IntKind.i64 (IntKind.wrap IntKind.i64 (i + (1 : Int)) * IntKind.wrap IntKind.i64 ((1 : Int) * (2 : Int) ^ min (Int.toNat (IntKind.wrap IntKind.u64 (IntKind.wrap IntKind.i64 (d - l)))) (64))))]) [] (AV.tup [AV.int IntKind.i64 (spanA d l i), AV.int IntKind.i64 (spanZ d l i)]) []))
    (by kernel_rfl) ?_
  refine k_req (wU_nonneg _) ?_
  exact k_out (Ent.of_eq (by obtain ⟨a, b⟩ := rspan_m h; rw [a, b]))

theorem cdig_c (c : Coin) (hr : byB c.root 32) : Pure Tryd.prog gl0 46 [c.av] (.agg (u8c c.dig)) := by
  have hi := citem_w c
  have he := encode_c c.it c.it_ok (by rw [c.it_len]; decide)
  have ht := tagged_c "specie/coin-item".toUTF8 (by decide) (by decide) (fun i => c.it.enc.getD i 0) c.it.enc.length (by rw [c.it_len]; decide) (It.enc_by (Coin.it_okB hr))
  refine pure_sk (own := ow0) Tryd.func46 (by kernel_rfl) mixed (by kernel_rfl)
    (.dc (true) 73 ([AV.agg (Coin.cells c)]) (It.av (Coin.it c)) (.dc (true) 43 ([AV.agg [AV.int IntKind.i64 (It.kind (Coin.it c)), AV.int IntKind.i64 (It.num (Coin.it c)), AV.isl (1) (0) fun (i x : Nat) => AV.int IntKind.u8 (It.fb (Coin.it c) i), AV.isl (4) (3) (It.row (Coin.it c))]]) (AV.tup [il IntKind.u8 (It.enc (Coin.it c)), AV.int IntKind.i64 (0 : Int)]) (.sc (true) 48 ([AV.str { data := #[(115 : UInt8), (112 : UInt8), (101 : UInt8), (99 : UInt8), (105 : UInt8), (101 : UInt8), (47 : UInt8), (99 : UInt8), (111 : UInt8), (105 : UInt8), (110 : UInt8), (45 : UInt8), (105 : UInt8), (116 : UInt8), (101 : UInt8), (109 : UInt8)] }, AV.isl (1) (133) fun (i x : Nat) => AV.int IntKind.u8 (List.getD (It.enc (Coin.it c)) i (0 : Int))]) (AV.tup [AV.agg (u8c (tagF (String.toUTF8 "specie/coin-item") (List.length (It.enc (Coin.it c))) fun (i : Nat) => List.getD (It.enc (Coin.it c)) i (0 : Int))), AV.int IntKind.i64 (0 : Int)]) (.out (AV.agg (u8c (tagF (String.toUTF8 "specie/coin-item") (133) fun (i : Nat) => List.getD (It.enc (Coin.it c)) i (0 : Int)))) [] (AV.agg (u8c (Coin.dig c))) []))))
    (by kernel_rfl) ?_
  refine k_dc (hi) ?_
  refine k_dc (he) ?_
  refine k_sc (ht) ?_
  exact k_out (Ent.refl _)

theorem rcdig_c (c : Coin) (hr : byB c.root 32) : Pure Tryd.prog gl0 27 [c.av] (.agg (u8c c.dig)) := by
  have hi := ritem_w c
  have he := renc_c c.it (by rw [c.it_len]; decide)
  have ht := rtagged_c "specie/coin-item".toUTF8 (by decide) (fun i => c.it.enc.getD i 0) c.it.enc.length (by rw [c.it_len]; decide) (It.enc_by (Coin.it_okB hr))
  refine pure_sk (own := ow0) Tryd.func27 (by kernel_rfl) mixed (by kernel_rfl)
    (.dc (true) 52 ([AV.agg (Coin.cells c)]) (It.av (Coin.it c)) (.dc (true) 31 ([AV.agg [AV.int IntKind.i64 (It.kind (Coin.it c)), AV.int IntKind.i64 (It.num (Coin.it c)), AV.isl (1) (0) fun (i x : Nat) => AV.int IntKind.u8 (It.fb (Coin.it c) i), AV.isl (4) (3) (It.row (Coin.it c))]]) (il IntKind.u8 (It.enc (Coin.it c))) (.sc (true) 30 ([AV.str { data := #[(115 : UInt8), (112 : UInt8), (101 : UInt8), (99 : UInt8), (105 : UInt8), (101 : UInt8), (47 : UInt8), (99 : UInt8), (111 : UInt8), (105 : UInt8), (110 : UInt8), (45 : UInt8), (105 : UInt8), (116 : UInt8), (101 : UInt8), (109 : UInt8)] }, AV.isl (1) (133) fun (i x : Nat) => AV.int IntKind.u8 (List.getD (It.enc (Coin.it c)) i (0 : Int))]) (AV.agg (u8c (tagF (String.toUTF8 "specie/coin-item") (List.length (It.enc (Coin.it c))) fun (i : Nat) => List.getD (It.enc (Coin.it c)) i (0 : Int)))) (.out (AV.agg (u8c (tagF (String.toUTF8 "specie/coin-item") (133) fun (i : Nat) => List.getD (It.enc (Coin.it c)) i (0 : Int)))) [] (AV.agg (u8c (Coin.dig c))) []))))
    (by kernel_rfl) ?_
  refine k_dc (hi) ?_
  refine k_dc (he) ?_
  refine k_sc (ht) ?_
  exact k_out (Ent.refl _)

theorem list4 (a b c d : It) : Pure Tryd.prog gl0 44 [.isl 4 4 fun r k => atL (List.getD [a.cells, b.cells, c.cells, d.cells] r []) k] (lsI [a, b, c, d]).av :=
  (list_c 4 _).ent (li4_out (EntL.refl _) (EntL.refl _) (EntL.refl _) (EntL.refl _))

theorem rlist_c (n : Nat) (f : Nat → Nat → AV) : Pure Tryd.prog gl0 32 [.isl 4 n f] (.agg [.int .i64 3, .int .i64 0, .nsl, .isl 4 n f]) := by
  refine pure_sk (own := ow0) Tryd.func32 (by kernel_rfl) mixed (by kernel_rfl)
    (.out (AV.agg [AV.int IntKind.i64 (3 : Int), AV.int IntKind.i64 (0 : Int), AV.nsl, AV.isl (4) n f]) [] (AV.agg [AV.int IntKind.i64 (3 : Int), AV.int IntKind.i64 (0 : Int), AV.nsl, AV.isl (4 : Nat) n f]) [])
    (by kernel_rfl) ?_
  exact k_out (Ent.refl _)

theorem rlist4 (a b c d : It) : Pure Tryd.prog gl0 32 [.isl 4 4 fun r k => atL (List.getD [a.cells, b.cells, c.cells, d.cells] r []) k] (lsI [a, b, c, d]).av :=
  (rlist_c 4 _).ent (li4_out (EntL.refl _) (EntL.refl _) (EntL.refl _) (EntL.refl _))

theorem chal_c (b : Bas) (c : Coin) (l i : Int) (x : Cxt) (hr : byB c.root 32) (hp : byB x.payee 32) (hq : 0 < b.gr.q) (hq' : b.gr.q < 2305843009213693952) : Pure Tryd.prog gl0 23 [b.av, c.av, .agg [.int .i64 l, .int .i64 i], x.av] (.int .i64 (chalN b.gr.q c l i x)) := by
  have hd := cdig_c c hr
  have hb := bytes_c c.dig
  have hb2 := bytes_c x.payee
  have hi := ints_2 l i
  have hi2 := ints_2 x.time x.number
  have hl := list4 (.byt 32 c.dig) (intsI [l, i]) (.byt 32 x.payee) (intsI [x.time, x.number])
  have he := encode_c (chalI c l i x) (chal_ok c l i x) (by rw [chal_len]; decide)
  have ht := tagged_c "specie/spend".toUTF8 (by decide) (by decide) (fun k => (chalI c l i x).enc.getD k 0) (chalI c l i x).enc.length (by rw [chal_len]; decide) (It.enc_by (chal_okB hp))
  have hn := number_c (tagI "specie/spend".toUTF8 (chalI c l i x)) b.gr.q hq hq' (tagI_by _ _ _)
  refine pure_sk (own := ow0) Tryd.func23 (by kernel_rfl) mixed (by kernel_rfl)
    (.sc (true) 46 ([AV.agg (Coin.cells c)]) (AV.agg (u8c (Coin.dig c))) (.dc (true) 45 ([AV.agg (u8c (Coin.dig c))]) (It.av (It.byt (32 : Nat) (Coin.dig c))) (.dc (true) 47 ([AV.isl (1) (2) fun (r k : Nat) => atL (List.getD [[AV.int IntKind.i64 l], [AV.int IntKind.i64 i]] (r + 0) []) k]) (It.av (intsI [l, i])) (.dc (true) 45 ([AV.agg (u8c x.1)]) (It.av (It.byt (32 : Nat) (Cxt.payee x))) (.dc (true) 47 ([AV.isl (1) (2) fun (r k : Nat) => atL (List.getD [[AV.int IntKind.i64 x.2], [AV.int IntKind.i64 x.3]] (r + 0) []) k]) (It.av (intsI [Cxt.time x, Cxt.number x])) (.dc (true) 44 ([AV.isl (4) (4) fun (r k : Nat) => atL (List.getD [[AV.int IntKind.i64 (It.kind (It.byt (32) (Coin.dig c))), AV.int IntKind.i64 (It.num (It.byt (32) (Coin.dig c))), AV.isl (1) (32) fun (i x : Nat) => AV.int IntKind.u8 (It.fb (It.byt (32) (Coin.dig c)) i), AV.isl (4) (0) (It.row (It.byt (32) (Coin.dig c)))], [AV.int IntKind.i64 (It.kind (intsI [l, i])), AV.int IntKind.i64 (It.num (intsI [l, i])), AV.isl (1) (0) fun (i_1 x : Nat) => AV.int IntKind.u8 (It.fb (intsI [l, i]) i_1), AV.isl (4) (2) (It.row (intsI [l, i]))], [AV.int IntKind.i64 (It.kind (It.byt (32) x.1)), AV.int IntKind.i64 (It.num (It.byt (32) x.1)), AV.isl (1) (32) fun (i x_1 : Nat) => AV.int IntKind.u8 (It.fb (It.byt (32) x.1) i), AV.isl (4) (0) (It.row (It.byt (32) x.1))], [AV.int IntKind.i64 (It.kind (intsI [x.2, x.3])), AV.int IntKind.i64 (It.num (intsI [x.2, x.3])), AV.isl (1) (0) fun (i x_1 : Nat) => AV.int IntKind.u8 (It.fb (intsI [x.2, x.3]) i), AV.isl (4) (2) (It.row (intsI [x.2, x.3]))]] (r + 0) []) k]) (It.av (lsI [It.byt (32 : Nat) (Coin.dig c), intsI [l, i], It.byt (32 : Nat) (Cxt.payee x), intsI [Cxt.time x, Cxt.number x]])) (.dc (true) 43 ([AV.agg [AV.int IntKind.i64 (It.kind (lsI [It.byt (32) (Coin.dig c), intsI [l, i], It.byt (32) x.1, intsI [x.2, x.3]])), AV.int IntKind.i64 (It.num (lsI [It.byt (32) (Coin.dig c), intsI [l, i], It.byt (32) x.1, intsI [x.2, x.3]])), AV.isl (1) (0) fun (i_1 x_1 : Nat) => AV.int IntKind.u8 (It.fb (lsI [It.byt (32) (Coin.dig c), intsI [l, i], It.byt (32) x.1, intsI [x.2, x.3]]) i_1), AV.isl (4) (4) (It.row (lsI [It.byt (32) (Coin.dig c), intsI [l, i], It.byt (32) x.1, intsI [x.2, x.3]]))]]) (AV.tup [il IntKind.u8 (It.enc (chalI c l i x)), AV.int IntKind.i64 (0 : Int)]) (.sc (true) 48 ([AV.str { data := #[(115 : UInt8), (112 : UInt8), (101 : UInt8), (99 : UInt8), (105 : UInt8), (101 : UInt8), (47 : UInt8), (115 : UInt8), (112 : UInt8), (101 : UInt8), (110 : UInt8), (100 : UInt8)] }, AV.isl (1) (125) fun (i_1 x_1 : Nat) => AV.int IntKind.u8 (List.getD (It.enc (chalI c l i x)) i_1 (0 : Int))]) (AV.tup [AV.agg (u8c (tagF (String.toUTF8 "specie/spend") (List.length (It.enc (chalI c l i x))) fun (k : Nat) => List.getD (It.enc (chalI c l i x)) k (0 : Int))), AV.int IntKind.i64 (0 : Int)]) (.sc (true) 49 ([AV.agg (u8c (tagF (String.toUTF8 "specie/spend") (125) fun (k : Nat) => List.getD (It.enc (chalI c l i x)) k (0 : Int))), AV.int IntKind.i64 (Bas.gr b).2]) (AV.tup [AV.int IntKind.i64 (numF (tagI (String.toUTF8 "specie/spend") (chalI c l i x)) (Grp.q (Bas.gr b)) (16 : Nat)), AV.int IntKind.i64 (0 : Int)]) (.out (AV.int IntKind.i64 (numF (tagI (String.toUTF8 "specie/spend") (chalI c l i x)) (Bas.gr b).2 (16))) [] (AV.int IntKind.i64 (chalN (Grp.q (Bas.gr b)) c l i x)) []))))))))))
    (by kernel_rfl) ?_
  refine k_sc (hd) ?_
  refine k_dc (hb) ?_
  refine k_dc (hi) ?_
  refine k_dc (hb2) ?_
  refine k_dc (hi2) ?_
  refine k_dc (hl) ?_
  refine k_dc (he) ?_
  refine k_sc (ht) ?_
  refine k_sc (hn) ?_
  exact k_out (Ent.refl _)

theorem rchal_c (b : Bas) (c : Coin) (l i : Int) (x : Cxt) (hr : byB c.root 32) (hp : byB x.payee 32) (hq : 0 < b.gr.q) (hq' : b.gr.q < 2305843009213693952) : Pure Tryd.prog gl0 13 [b.av, c.av, .agg [.int .i64 l, .int .i64 i], x.av] (.int .i64 (chalN b.gr.q c l i x)) := by
  have hd := rcdig_c c hr
  have hb := rbytes31_c c.dig
  have hb2 := rbytes31_c x.payee
  have hi := rints_2 l i
  have hi2 := rints_2 x.time x.number
  have hl := rlist4 (.byt 32 c.dig) (intsI [l, i]) (.byt 32 x.payee) (intsI [x.time, x.number])
  have he := renc_c (chalI c l i x) (by rw [chal_len]; decide)
  have ht := rtagged_c "specie/spend".toUTF8 (by decide) (fun k => (chalI c l i x).enc.getD k 0) (chalI c l i x).enc.length (by rw [chal_len]; decide) (It.enc_by (chal_okB hp))
  have hn := rnumber_c (tagI "specie/spend".toUTF8 (chalI c l i x)) b.gr.q hq hq' (tagI_by _ _ _)
  refine pure_sk (own := ow0) Tryd.func13 (by kernel_rfl) mixed (by kernel_rfl)
    (.sc (true) 27 ([AV.agg (Coin.cells c)]) (AV.agg (u8c (Coin.dig c))) (.dc (true) 26 ([AV.agg (u8c (Coin.dig c))]) (It.av (It.byt (32 : Nat) (Coin.dig c))) (.dc (true) 28 ([AV.isl (1) (2) fun (r k : Nat) => atL (List.getD [[AV.int IntKind.i64 l], [AV.int IntKind.i64 i]] (r + 0) []) k]) (It.av (intsI [l, i])) (.dc (true) 26 ([AV.agg (u8c x.1)]) (It.av (It.byt (32 : Nat) (Cxt.payee x))) (.dc (true) 28 ([AV.isl (1) (2) fun (r k : Nat) => atL (List.getD [[AV.int IntKind.i64 x.2], [AV.int IntKind.i64 x.3]] (r + 0) []) k]) (It.av (intsI [Cxt.time x, Cxt.number x])) (.dc (true) 32 ([AV.isl (4) (4) fun (r k : Nat) => atL (List.getD [[AV.int IntKind.i64 (It.kind (It.byt (32) (Coin.dig c))), AV.int IntKind.i64 (It.num (It.byt (32) (Coin.dig c))), AV.isl (1) (32) fun (i x : Nat) => AV.int IntKind.u8 (It.fb (It.byt (32) (Coin.dig c)) i), AV.isl (4) (0) (It.row (It.byt (32) (Coin.dig c)))], [AV.int IntKind.i64 (It.kind (intsI [l, i])), AV.int IntKind.i64 (It.num (intsI [l, i])), AV.isl (1) (0) fun (i_1 x : Nat) => AV.int IntKind.u8 (It.fb (intsI [l, i]) i_1), AV.isl (4) (2) (It.row (intsI [l, i]))], [AV.int IntKind.i64 (It.kind (It.byt (32) x.1)), AV.int IntKind.i64 (It.num (It.byt (32) x.1)), AV.isl (1) (32) fun (i x_1 : Nat) => AV.int IntKind.u8 (It.fb (It.byt (32) x.1) i), AV.isl (4) (0) (It.row (It.byt (32) x.1))], [AV.int IntKind.i64 (It.kind (intsI [x.2, x.3])), AV.int IntKind.i64 (It.num (intsI [x.2, x.3])), AV.isl (1) (0) fun (i x_1 : Nat) => AV.int IntKind.u8 (It.fb (intsI [x.2, x.3]) i), AV.isl (4) (2) (It.row (intsI [x.2, x.3]))]] (r + 0) []) k]) (It.av (lsI [It.byt (32 : Nat) (Coin.dig c), intsI [l, i], It.byt (32 : Nat) (Cxt.payee x), intsI [Cxt.time x, Cxt.number x]])) (.dc (true) 31 ([AV.agg [AV.int IntKind.i64 (It.kind (lsI [It.byt (32) (Coin.dig c), intsI [l, i], It.byt (32) x.1, intsI [x.2, x.3]])), AV.int IntKind.i64 (It.num (lsI [It.byt (32) (Coin.dig c), intsI [l, i], It.byt (32) x.1, intsI [x.2, x.3]])), AV.isl (1) (0) fun (i_1 x_1 : Nat) => AV.int IntKind.u8 (It.fb (lsI [It.byt (32) (Coin.dig c), intsI [l, i], It.byt (32) x.1, intsI [x.2, x.3]]) i_1), AV.isl (4) (4) (It.row (lsI [It.byt (32) (Coin.dig c), intsI [l, i], It.byt (32) x.1, intsI [x.2, x.3]]))]]) (il IntKind.u8 (It.enc (chalI c l i x))) (.sc (true) 30 ([AV.str { data := #[(115 : UInt8), (112 : UInt8), (101 : UInt8), (99 : UInt8), (105 : UInt8), (101 : UInt8), (47 : UInt8), (115 : UInt8), (112 : UInt8), (101 : UInt8), (110 : UInt8), (100 : UInt8)] }, AV.isl (1) (125) fun (i_1 x_1 : Nat) => AV.int IntKind.u8 (List.getD (It.enc (chalI c l i x)) i_1 (0 : Int))]) (AV.agg (u8c (tagF (String.toUTF8 "specie/spend") (List.length (It.enc (chalI c l i x))) fun (k : Nat) => List.getD (It.enc (chalI c l i x)) k (0 : Int)))) (.sc (true) 29 ([AV.agg (u8c (tagF (String.toUTF8 "specie/spend") (125) fun (k : Nat) => List.getD (It.enc (chalI c l i x)) k (0 : Int))), AV.int IntKind.i64 (Bas.gr b).2]) (AV.int IntKind.i64 (numF (tagI (String.toUTF8 "specie/spend") (chalI c l i x)) (Grp.q (Bas.gr b)) (16 : Nat))) (.out (AV.int IntKind.i64 (numF (tagI (String.toUTF8 "specie/spend") (chalI c l i x)) (Bas.gr b).2 (16))) [] (AV.int IntKind.i64 (chalN (Grp.q (Bas.gr b)) c l i x)) []))))))))))
    (by kernel_rfl) ?_
  refine k_sc (hd) ?_
  refine k_dc (hb) ?_
  refine k_dc (hi) ?_
  refine k_dc (hb2) ?_
  refine k_dc (hi2) ?_
  refine k_dc (hl) ?_
  refine k_dc (he) ?_
  refine k_sc (ht) ?_
  refine k_sc (hn) ?_
  exact k_out (Ent.refl _)

end Go.Proofs.YtmhipmiacghgeaaDoor

namespace Go.Sp
open Go Go.Am
def chalE (b : Bas) (c : Coin) (l i : Int) (x : Cxt) : Int := bif validB b then (bif nodeB c.depth l i && ctxB x.time x.number then 0 else 2) else 1
def chalK (b : Bas) (c : Coin) (l i : Int) (x : Cxt) : Int := bif validB b && (nodeB c.depth l i && ctxB x.time x.number) then chalN b.gr.q c l i x else 0
theorem validB_ok {b : Bas} (h : validB b = true) : b.gr.Ok := by
  unfold validB at h
  simp only [Bool.and_eq_true] at h
  exact validG_iff.1 h.1.1.1.1.1.1
theorem validB_q {b : Bas} (h : validB b = true) : 0 < b.gr.q ∧ b.gr.q < 2305843009213693952 := by
  have h := validB_ok h
  have := h.qp; have := h.q3; have := h.p1
  omega
def amV (v d l i : Int) : Int := if amE v d l i = 0 then v.fdiv (2 ^ min l.toNat 64) else 0
theorem am_1 {v d l i : Int} (h : v < 0 ∨ 1099511627776 < v ∨ d < 0 ∨ 5 < d) : amE v d l i = 1 ∧ amV v d l i = 0 := by
  have e : amE v d l i = 1 := if_pos h
  exact ⟨e, by unfold amV; rw [e]; rfl⟩
theorem am_2 {v d l i : Int} (h : ¬ (v < 0 ∨ 1099511627776 < v ∨ d < 0 ∨ 5 < d)) (hn : nodeB d l i = false) : amE v d l i = 2 ∧ amV v d l i = 0 := by
  have e : amE v d l i = 2 := by unfold amE; rw [if_neg h, hn]; rfl
  exact ⟨e, by unfold amV; rw [e]; rfl⟩
theorem am_3 {v d l i : Int} (h : ¬ (v < 0 ∨ 1099511627776 < v ∨ d < 0 ∨ 5 < d)) (hn : nodeB d l i = true) : amE v d l i = 0 ∧ amV v d l i = v.fdiv (2 ^ min l.toNat 64) := by
  have e : amE v d l i = 0 := by unfold amE; rw [if_neg h, hn]; rfl
  exact ⟨e, by unfold amV; rw [e]; rfl⟩
theorem chal_1 {b : Bas} {c : Coin} {l i : Int} {x : Cxt} (h : validB b = false) : chalE b c l i x = 1 ∧ chalK b c l i x = 0 := by
  unfold chalE chalK; rw [h]; exact ⟨rfl, rfl⟩
theorem chal_2 {b : Bas} {c : Coin} {l i : Int} {x : Cxt} (h : validB b = true) (h' : nodeB c.depth l i = false ∨ ctxB x.time x.number = false) : chalE b c l i x = 2 ∧ chalK b c l i x = 0 := by
  have e : (nodeB c.depth l i && ctxB x.time x.number) = false := by rcases h' with e | e <;> simp [e]
  unfold chalE chalK; rw [h, e]; exact ⟨rfl, rfl⟩
theorem chal_3 {b : Bas} {c : Coin} {l i : Int} {x : Cxt} (h : validB b = true) (h' : nodeB c.depth l i = true ∧ ctxB x.time x.number = true) : chalE b c l i x = 0 ∧ chalK b c l i x = chalN b.gr.q c l i x := by
  have e : (nodeB c.depth l i && ctxB x.time x.number) = true := by simp [h']
  unfold chalE chalK; rw [h, e]; exact ⟨rfl, rfl⟩
theorem span_a {d l i : Int} (h : d < 0 ∨ d > 5) : spanA d l i = 0 ∧ spanZ d l i = 0 ∧ spanE d l i = 1 := span_1 (by simp; omega)
theorem span_b {d l i : Int} (h : ¬ (d < 0 ∨ d > 5)) (hn : nodeB d l i = false) : spanA d l i = 0 ∧ spanZ d l i = 0 ∧ spanE d l i = 2 := span_2 (by simp; omega) (by simp [hn])
theorem span_d {d l i : Int} (hn : nodeB d l i = true) : spanE d l i = 0 ∧ 0 ≤ l ∧ l ≤ d ∧ 0 ≤ d ∧ d ≤ 5 := by
  have h := node_t hn
  refine ⟨?_, by omega, by omega, by omega, by omega⟩
  unfold spanE
  rw [if_neg (by omega), if_pos hn]
end Go.Sp

namespace Go.Proofs.YtmhipmiacghgeaaDoor
open Go Go.Am Go.Sp
set_option maxRecDepth 100000

theorem chall_c (b : Bas) (c : Coin) (l i : Int) (x : Cxt) (hw : b.gr.W) (hr : byB c.root 32) (hp : byB x.payee 32) : Pure Tryd.prog gl0 10 [b.av, c.av, .agg [.int .i64 l, .int .i64 i], x.av] (.tup [.int .i64 (chalK b c l i x), .int .i64 (chalE b c l i x)]) := by
  have hc := fun h h' => chal_c b c l i x hr hp h h'
  have hx := context_c x
  have hv := bvalid_c b hw
  refine pure_sk (own := ow0) Tryd.func10 (by kernel_rfl) mixed (by kernel_rfl)
    (.sc (true) 21 ([AV.agg (Bas.cells b)]) (AV.bool (validB b)) (.br (!validB b) (.out (AV.tup [AV.int IntKind.i64 (0 : Int), AV.int IntKind.i64 (1 : Int)]) [] (AV.tup [AV.int IntKind.i64 (chalK b c l i x), AV.int IntKind.i64 (chalE b c l i x)]) []) (.sc (true) 19 ([AV.int IntKind.i64 c.4, AV.agg [AV.int IntKind.i64 l, AV.int IntKind.i64 i]]) (AV.bool (nodeB c.4 l i)) (.sc ((!nodeB c.4 l i) == false) 22 ([AV.agg (u8c x.1 ++ [AV.int IntKind.i64 x.2, AV.int IntKind.i64 x.3])]) (AV.bool (ctxB (Cxt.time x) (Cxt.number x))) (.br (!nodeB c.4 l i || !ctxB x.2 x.3) (.out (AV.tup [AV.int IntKind.i64 (0 : Int), AV.int IntKind.i64 (2 : Int)]) [] (AV.tup [AV.int IntKind.i64 (chalK b c l i x), AV.int IntKind.i64 (chalE b c l i x)]) []) (.sc (true) 23 ([AV.agg (Bas.cells b), AV.agg (Coin.cells c), AV.agg [AV.int IntKind.i64 l, AV.int IntKind.i64 i], AV.agg (u8c x.1 ++ [AV.int IntKind.i64 x.2, AV.int IntKind.i64 x.3])]) (AV.int IntKind.i64 (chalN (Grp.q (Bas.gr b)) c l i x)) (.out (AV.tup [AV.int IntKind.i64 (chalN (Bas.gr b).2 c l i x), AV.int IntKind.i64 (0 : Int)]) [] (AV.tup [AV.int IntKind.i64 (chalK b c l i x), AV.int IntKind.i64 (chalE b c l i x)]) [])))))))
    (by kernel_rfl) ?_
  refine k_sc (hv) ?_
  refine k_br (fun h1 => ?_) (fun h1 => ?_)
  · have g1 := (cnd_not_t cnd_id_f) h1
    exact k_out (Ent.of_eq (by rw [(chal_1 g1).1, (chal_1 g1).2]))
  · have g1 := (cnd_not_f cnd_id_t) h1
    refine k_sc (node_c (c.4) (l) (i)) ?_
    refine k_scg (fun h4 => hx) ?_
    refine k_br (fun h5 => ?_) (fun h5 => ?_)
    · have g5 := (cnd_or_t (cnd_not_t cnd_id_f) (cnd_not_t cnd_id_f)) h5
      exact k_out (Ent.of_eq (by rw [(chal_2 g1 g5).1, (chal_2 g1 g5).2]))
    · have g5 := (cnd_or_f (cnd_not_f cnd_id_t) (cnd_not_f cnd_id_t)) h5
      refine k_sc (hc ((validB_q g1).1) ((validB_q g1).2)) ?_
      exact k_out (Ent.of_eq (by rw [(chal_3 g1 g5).1, (chal_3 g1 g5).2]))

theorem amount_z (k0 k1 k2 v d k5 k6 k7 k8 k9 k10 l i : Int) : Pure Tryd.prog gl0 9 [.agg [.int .i64 k0, .int .i64 k1, .int .i64 k2, .int .i64 v, .int .i64 d, .int .i64 k5, .int .i64 k6, .int .i64 k7, .int .i64 k8, .int .i64 k9, .int .i64 k10], .agg [.int .i64 0, .int .i64 0, .int .i64 0, .int .i64 0, .int .i64 0, .int .u8 0, .int .u8 0, .int .u8 0, .int .u8 0, .int .u8 0, .int .u8 0, .int .u8 0, .int .u8 0, .int .u8 0, .int .u8 0, .int .u8 0, .int .u8 0, .int .u8 0, .int .u8 0, .int .u8 0, .int .u8 0, .int .u8 0, .int .u8 0, .int .u8 0, .int .u8 0, .int .u8 0, .int .u8 0, .int .u8 0, .int .u8 0, .int .u8 0, .int .u8 0, .int .u8 0, .int .u8 0, .int .u8 0, .int .u8 0, .int .u8 0, .int .u8 0, .int .i64 0, .int .i64 0, .int .i64 0, .int .i64 0, .int .i64 l, .int .i64 i, .int .u8 0, .int .u8 0, .int .u8 0, .int .u8 0, .int .u8 0, .int .u8 0, .int .u8 0, .int .u8 0, .int .u8 0, .int .u8 0, .int .u8 0, .int .u8 0, .int .u8 0, .int .u8 0, .int .u8 0, .int .u8 0, .int .u8 0, .int .u8 0, .int .u8 0, .int .u8 0, .int .u8 0, .int .u8 0, .int .u8 0, .int .u8 0, .int .u8 0, .int .u8 0, .int .u8 0, .int .u8 0, .int .u8 0, .int .u8 0, .int .u8 0, .int .u8 0, .int .i64 0, .int .i64 0, .nsl, .int .i64 0, .nsl]] (.tup [.int .i64 (amV v d l i), .int .i64 (amE v d l i)]) := by
  refine pure_sk (own := ow0) Tryd.func9 (by kernel_rfl) mixed (by kernel_rfl)
    (.br (decide (v < (0 : Int)) || decide (v > (1099511627776 : Int)) || decide (d < (0 : Int)) || decide (d > (5 : Int))) (.out (AV.tup [AV.int IntKind.i64 (0 : Int), AV.int IntKind.i64 (1 : Int)]) [] (AV.tup [AV.int IntKind.i64 (amV v d l i), AV.int IntKind.i64 (amE v d l i)]) []) (.sc (true) 19 ([AV.int IntKind.i64 d, AV.agg [AV.int IntKind.i64 l, AV.int IntKind.i64 i]]) (AV.bool (nodeB d l i)) (.br (!nodeB d l i) (.out (AV.tup [AV.int IntKind.i64 (0 : Int), AV.int IntKind.i64 (2 : Int)]) [] (AV.tup [AV.int IntKind.i64 (amV v d l i), AV.int IntKind.i64 (amE v d l i)]) []) (.req ((0 : Int) ≤ l) (.out (AV.tup [AV.int IntKind.i64 (Int.fdiv v ((2 : Int) ^ min (Int.toNat l) (64))), AV.int IntKind.i64 (0 : Int)]) [] (AV.tup [AV.int IntKind.i64 (amV v d l i), AV.int IntKind.i64 (amE v d l i)]) [])))))
    (by kernel_rfl) ?_
  refine k_br (fun h0 => ?_) (fun h0 => ?_)
  · have g0 := (cnd_or_t (cnd_or_t (cnd_or_t cnd_dec_t cnd_dec_t) cnd_dec_t) cnd_dec_t) h0
    exact k_out (Ent.of_eq (by rw [(am_1 (by omega)).1, (am_1 (by omega)).2]))
  · have g0 := (cnd_or_f (cnd_or_f (cnd_or_f cnd_dec_f cnd_dec_f) cnd_dec_f) cnd_dec_f) h0
    refine k_sc (node_c (d) (l) (i)) ?_
    refine k_br (fun h3 => ?_) (fun h3 => ?_)
    · have g3 := (cnd_not_t cnd_id_f) h3
      exact k_out (Ent.of_eq (by rw [(am_2 (by omega) g3).1, (am_2 (by omega) g3).2]))
    · have g3 := (cnd_not_f cnd_id_t) h3
      refine k_req ((span_d g3).2.1) ?_
      exact k_out (Ent.of_eq (by rw [(am_3 (by omega) g3).1, (am_3 (by omega) g3).2]))

theorem awake32_c : Pure Tryd.prog gl0 5 [] (.bool true) := by
  have h1 := span_c 2 1 1
  have h2 := amount_z 0 0 0 8 2 0 0 0 0 0 0 1 1
  refine pure_sk (own := ow0) Tryd.func5 (by kernel_rfl) mixed (by kernel_rfl)
    (.sc (true) 6 ([AV.int IntKind.i64 (2 : Int), AV.agg [AV.int IntKind.i64 (1 : Int), AV.int IntKind.i64 (1 : Int)]]) (AV.tup [AV.int IntKind.i64 (spanA (2 : Int) (1 : Int) (1 : Int)), AV.int IntKind.i64 (spanZ (2 : Int) (1 : Int) (1 : Int)), AV.int IntKind.i64 (spanE (2 : Int) (1 : Int) (1 : Int))]) (.sc (true) 9 ([AV.agg [AV.int IntKind.i64 (0 : Int), AV.int IntKind.i64 (0 : Int), AV.int IntKind.i64 (0 : Int), AV.int IntKind.i64 (8 : Int), AV.int IntKind.i64 (2 : Int), AV.int IntKind.i64 (0 : Int), AV.int IntKind.i64 (0 : Int), AV.int IntKind.i64 (0 : Int), AV.int IntKind.i64 (0 : Int), AV.int IntKind.i64 (0 : Int), AV.int IntKind.i64 (0 : Int)], AV.agg [AV.int IntKind.i64 (0 : Int), AV.int IntKind.i64 (0 : Int), AV.int IntKind.i64 (0 : Int), AV.int IntKind.i64 (0 : Int), AV.int IntKind.i64 (0 : Int), AV.int IntKind.u8 (0 : Int), AV.int IntKind.u8 (0 : Int), AV.int IntKind.u8 (0 : Int), AV.int IntKind.u8 (0 : Int), AV.int IntKind.u8 (0 : Int), AV.int IntKind.u8 (0 : Int), AV.int IntKind.u8 (0 : Int), AV.int IntKind.u8 (0 : Int), AV.int IntKind.u8 (0 : Int), AV.int IntKind.u8 (0 : Int), AV.int IntKind.u8 (0 : Int), AV.int IntKind.u8 (0 : Int), AV.int IntKind.u8 (0 : Int), AV.int IntKind.u8 (0 : Int), AV.int IntKind.u8 (0 : Int), AV.int IntKind.u8 (0 : Int), AV.int IntKind.u8 (0 : Int), AV.int IntKind.u8 (0 : Int), AV.int IntKind.u8 (0 : Int), AV.int IntKind.u8 (0 : Int), AV.int IntKind.u8 (0 : Int), AV.int IntKind.u8 (0 : Int), AV.int IntKind.u8 (0 : Int), AV.int IntKind.u8 (0 : Int), AV.int IntKind.u8 (0 : Int), AV.int IntKind.u8 (0 : Int), AV.int IntKind.u8 (0 : Int), AV.int IntKind.u8 (0 : Int), AV.int IntKind.u8 (0 : Int), AV.int IntKind.u8 (0 : Int), AV.int IntKind.u8 (0 : Int), AV.int IntKind.u8 (0 : Int), AV.int IntKind.i64 (0 : Int), AV.int IntKind.i64 (0 : Int), AV.int IntKind.i64 (0 : Int), AV.int IntKind.i64 (0 : Int), AV.int IntKind.i64 (1 : Int), AV.int IntKind.i64 (1 : Int), AV.int IntKind.u8 (0 : Int), AV.int IntKind.u8 (0 : Int), AV.int IntKind.u8 (0 : Int), AV.int IntKind.u8 (0 : Int), AV.int IntKind.u8 (0 : Int), AV.int IntKind.u8 (0 : Int), AV.int IntKind.u8 (0 : Int), AV.int IntKind.u8 (0 : Int), AV.int IntKind.u8 (0 : Int), AV.int IntKind.u8 (0 : Int), AV.int IntKind.u8 (0 : Int), AV.int IntKind.u8 (0 : Int), AV.int IntKind.u8 (0 : Int), AV.int IntKind.u8 (0 : Int), AV.int IntKind.u8 (0 : Int), AV.int IntKind.u8 (0 : Int), AV.int IntKind.u8 (0 : Int), AV.int IntKind.u8 (0 : Int), AV.int IntKind.u8 (0 : Int), AV.int IntKind.u8 (0 : Int), AV.int IntKind.u8 (0 : Int), AV.int IntKind.u8 (0 : Int), AV.int IntKind.u8 (0 : Int), AV.int IntKind.u8 (0 : Int), AV.int IntKind.u8 (0 : Int), AV.int IntKind.u8 (0 : Int), AV.int IntKind.u8 (0 : Int), AV.int IntKind.u8 (0 : Int), AV.int IntKind.u8 (0 : Int), AV.int IntKind.u8 (0 : Int), AV.int IntKind.u8 (0 : Int), AV.int IntKind.u8 (0 : Int), AV.int IntKind.i64 (0 : Int), AV.int IntKind.i64 (0 : Int), AV.nsl, AV.int IntKind.i64 (0 : Int), AV.nsl]]) (AV.tup [AV.int IntKind.i64 (amV (8 : Int) (2 : Int) (1 : Int) (1 : Int)), AV.int IntKind.i64 (amE (8 : Int) (2 : Int) (1 : Int) (1 : Int))]) (.out (AV.bool true) [] (AV.bool true) [])))
    (by kernel_rfl) ?_
  refine k_sc (h1) ?_
  refine k_sc (h2) ?_
  exact k_out (Ent.of_eq (by first | rfl | simp_all))

theorem spendNodes_c (b : Bas) (c : Coin) (x : Cxt) (k0 k1 k2 v d k5 k6 k7 k8 k9 k10 l i depth : Int) (hw : b.gr.W) (hr : byB c.root 32) (hp : byB x.payee 32) : Pure Tryd.prog gl0 3 [b.av, .agg [.int .i64 k0, .int .i64 k1, .int .i64 k2, .int .i64 v, .int .i64 d, .int .i64 k5, .int .i64 k6, .int .i64 k7, .int .i64 k8, .int .i64 k9, .int .i64 k10], c.av, .agg [.int .i64 l, .int .i64 i], x.av, .int .i64 depth] (.bool true) := by
  have s1 := fun h => span_a (d := depth) (l := l) (i := i) h
  have s2 := fun h h' => span_b (d := depth) (l := l) (i := i) h h'
  have s3 := fun h => span_d (d := depth) (l := l) (i := i) h
  have a0 := fun h => span_d (d := d) (l := l) (i := i) h
  have a1 := fun h => am_1 (v := v) (d := d) (l := l) (i := i) h
  have a2 := fun h h' => am_2 (v := v) (d := d) (l := l) (i := i) h h'
  have a3 := fun h h' => am_3 (v := v) (d := d) (l := l) (i := i) h h'
  have y1 := fun h => chal_1 (b := b) (c := c) (l := l) (i := i) (x := x) h
  have y2 := fun h h' => chal_2 (b := b) (c := c) (l := l) (i := i) (x := x) h h'
  have y3 := fun h h' => chal_3 (b := b) (c := c) (l := l) (i := i) (x := x) h h'
  have yq := fun h => validB_q (b := b) h
  have c1 := rctx_c x
  have c2 := r11valid_c b hw
  have c3 := chall_c b c l i x hw hr hp
  have c4 := fun h h' => rchal_c b c l i x hr hp h h'
  refine pure_sk (own := ow0) Tryd.func3 (by kernel_rfl) mixed (by kernel_rfl)
    (.sc (true) 5 ([]) (AV.bool true) (.ff (.sc (true) 6 ([AV.int IntKind.i64 depth, AV.agg [AV.int IntKind.i64 l, AV.int IntKind.i64 i]]) (AV.tup [AV.int IntKind.i64 (spanA depth l i), AV.int IntKind.i64 (spanZ depth l i), AV.int IntKind.i64 (spanE depth l i)]) (.br (decide (depth < (0 : Int)) || decide (depth > (5 : Int))) (.br (spanE depth l i != (1 : Int) || spanA depth l i != (0 : Int) || spanZ depth l i != (0 : Int)) (.out (AV.bool false) [] (AV.bool true) []) (.sc (true) 9 ([AV.agg [AV.int IntKind.i64 k0, AV.int IntKind.i64 k1, AV.int IntKind.i64 k2, AV.int IntKind.i64 v, AV.int IntKind.i64 d, AV.int IntKind.i64 k5, AV.int IntKind.i64 k6, AV.int IntKind.i64 k7, AV.int IntKind.i64 k8, AV.int IntKind.i64 k9, AV.int IntKind.i64 k10], AV.agg [AV.int IntKind.i64 (0 : Int), AV.int IntKind.i64 (0 : Int), AV.int IntKind.i64 (0 : Int), AV.int IntKind.i64 (0 : Int), AV.int IntKind.i64 (0 : Int), AV.int IntKind.u8 (0 : Int), AV.int IntKind.u8 (0 : Int), AV.int IntKind.u8 (0 : Int), AV.int IntKind.u8 (0 : Int), AV.int IntKind.u8 (0 : Int), AV.int IntKind.u8 (0 : Int), AV.int IntKind.u8 (0 : Int), AV.int IntKind.u8 (0 : Int), AV.int IntKind.u8 (0 : Int), AV.int IntKind.u8 (0 : Int), AV.int IntKind.u8 (0 : Int), AV.int IntKind.u8 (0 : Int), AV.int IntKind.u8 (0 : Int), AV.int IntKind.u8 (0 : Int), AV.int IntKind.u8 (0 : Int), AV.int IntKind.u8 (0 : Int), AV.int IntKind.u8 (0 : Int), AV.int IntKind.u8 (0 : Int), AV.int IntKind.u8 (0 : Int), AV.int IntKind.u8 (0 : Int), AV.int IntKind.u8 (0 : Int), AV.int IntKind.u8 (0 : Int), AV.int IntKind.u8 (0 : Int), AV.int IntKind.u8 (0 : Int), AV.int IntKind.u8 (0 : Int), AV.int IntKind.u8 (0 : Int), AV.int IntKind.u8 (0 : Int), AV.int IntKind.u8 (0 : Int), AV.int IntKind.u8 (0 : Int), AV.int IntKind.u8 (0 : Int), AV.int IntKind.u8 (0 : Int), AV.int IntKind.u8 (0 : Int), AV.int IntKind.i64 (0 : Int), AV.int IntKind.i64 (0 : Int), AV.int IntKind.i64 (0 : Int), AV.int IntKind.i64 (0 : Int), AV.int IntKind.i64 l, AV.int IntKind.i64 i, AV.int IntKind.u8 (0 : Int), AV.int IntKind.u8 (0 : Int), AV.int IntKind.u8 (0 : Int), AV.int IntKind.u8 (0 : Int), AV.int IntKind.u8 (0 : Int), AV.int IntKind.u8 (0 : Int), AV.int IntKind.u8 (0 : Int), AV.int IntKind.u8 (0 : Int), AV.int IntKind.u8 (0 : Int), AV.int IntKind.u8 (0 : Int), AV.int IntKind.u8 (0 : Int), AV.int IntKind.u8 (0 : Int), AV.int IntKind.u8 (0 : Int), AV.int IntKind.u8 (0 : Int), AV.int IntKind.u8 (0 : Int), AV.int IntKind.u8 (0 : Int), AV.int IntKind.u8 (0 : Int), AV.int IntKind.u8 (0 : Int), AV.int IntKind.u8 (0 : Int), AV.int IntKind.u8 (0 : Int), AV.int IntKind.u8 (0 : Int), AV.int IntKind.u8 (0 : Int), AV.int IntKind.u8 (0 : Int), AV.int IntKind.u8 (0 : Int), AV.int IntKind.u8 (0 : Int), AV.int IntKind.u8 (0 : Int), AV.int IntKind.u8 (0 : Int), AV.int IntKind.u8 (0 : Int), AV.int IntKind.u8 (0 : Int), AV.int IntKind.u8 (0 : Int), AV.int IntKind.u8 (0 : Int), AV.int IntKind.u8 (0 : Int), AV.int IntKind.i64 (0 : Int), AV.int IntKind.i64 (0 : Int), AV.nsl, AV.int IntKind.i64 (0 : Int), AV.nsl]]) (AV.tup [AV.int IntKind.i64 (amV v d l i), AV.int IntKind.i64 (amE v d l i)]) (.br (decide (v < (0 : Int)) || decide (v > (1099511627776 : Int)) || decide (d < (0 : Int)) || decide (d > (5 : Int))) (.br (amE v d l i != (1 : Int) || amV v d l i != (0 : Int)) (.out (AV.bool false) [] (AV.bool true) []) (.sc (true) 10 ([AV.agg (Bas.cells b), AV.agg (Coin.cells c), AV.agg [AV.int IntKind.i64 l, AV.int IntKind.i64 i], AV.agg (u8c x.1 ++ [AV.int IntKind.i64 x.2, AV.int IntKind.i64 x.3])]) (AV.tup [AV.int IntKind.i64 (chalK b c l i x), AV.int IntKind.i64 (chalE b c l i x)]) (.sc (true) 11 ([AV.agg (Bas.cells b)]) (AV.bool (validB b)) (.br (!validB b) (.out (AV.bool (chalE b c l i x == (1 : Int) && chalK b c l i x == (0 : Int))) [] (AV.bool true) []) (.sc (true) 7 ([AV.int IntKind.i64 c.4, AV.agg [AV.int IntKind.i64 l, AV.int IntKind.i64 i]]) (AV.bool (nodeB c.4 l i)) (.sc ((!nodeB c.4 l i) == false) 12 ([AV.agg (u8c x.1 ++ [AV.int IntKind.i64 x.2, AV.int IntKind.i64 x.3])]) (AV.bool (ctxB (Cxt.time x) (Cxt.number x))) (.br (!nodeB c.4 l i || !ctxB x.2 x.3) (.out (AV.bool (chalE b c l i x == (2 : Int) && chalK b c l i x == (0 : Int))) [] (AV.bool true) []) (.sc ((chalE b c l i x == (0 : Int)) == true) 13 ([AV.agg (Bas.cells b), AV.agg (Coin.cells c), AV.agg [AV.int IntKind.i64 l, AV.int IntKind.i64 i], AV.agg (u8c x.1 ++ [AV.int IntKind.i64 x.2, AV.int IntKind.i64 x.3])]) (AV.int IntKind.i64 (chalN (Grp.q (Bas.gr b)) c l i x)) (.out (AV.bool (chalE b c l i x == (0 : Int) && chalK b c l i x == chalN (Bas.gr b).2 c l i x)) [] (AV.bool true) []))))))))) (.sc (true) 7 ([AV.int IntKind.i64 d, AV.agg [AV.int IntKind.i64 l, AV.int IntKind.i64 i]]) (AV.bool (nodeB d l i)) (.br (!nodeB d l i) (.br (amE v d l i != (2 : Int) || amV v d l i != (0 : Int)) (.out (AV.bool false) [] (AV.bool true) []) (.sc (true) 10 ([AV.agg (Bas.cells b), AV.agg (Coin.cells c), AV.agg [AV.int IntKind.i64 l, AV.int IntKind.i64 i], AV.agg (u8c x.1 ++ [AV.int IntKind.i64 x.2, AV.int IntKind.i64 x.3])]) (AV.tup [AV.int IntKind.i64 (chalK b c l i x), AV.int IntKind.i64 (chalE b c l i x)]) (.sc (true) 11 ([AV.agg (Bas.cells b)]) (AV.bool (validB b)) (.br (!validB b) (.out (AV.bool (chalE b c l i x == (1 : Int) && chalK b c l i x == (0 : Int))) [] (AV.bool true) []) (.sc (true) 7 ([AV.int IntKind.i64 c.4, AV.agg [AV.int IntKind.i64 l, AV.int IntKind.i64 i]]) (AV.bool (nodeB c.4 l i)) (.sc ((!nodeB c.4 l i) == false) 12 ([AV.agg (u8c x.1 ++ [AV.int IntKind.i64 x.2, AV.int IntKind.i64 x.3])]) (AV.bool (ctxB (Cxt.time x) (Cxt.number x))) (.br (!nodeB c.4 l i || !ctxB x.2 x.3) (.out (AV.bool (chalE b c l i x == (2 : Int) && chalK b c l i x == (0 : Int))) [] (AV.bool true) []) (.sc ((chalE b c l i x == (0 : Int)) == true) 13 ([AV.agg (Bas.cells b), AV.agg (Coin.cells c), AV.agg [AV.int IntKind.i64 l, AV.int IntKind.i64 i], AV.agg (u8c x.1 ++ [AV.int IntKind.i64 x.2, AV.int IntKind.i64 x.3])]) (AV.int IntKind.i64 (chalN (Grp.q (Bas.gr b)) c l i x)) (.out (AV.bool (chalE b c l i x == (0 : Int) && chalK b c l i x == chalN (Bas.gr b).2 c l i x)) [] (AV.bool true) []))))))))) (.req (((amE v d l i != (0 : Int)) == false) = true → (0 : Int) ≤ l) (.br (amE v d l i != (0 : Int) || amV v d l i != Int.fdiv v ((2 : Int) ^ min (Int.toNat l) (64))) (.out (AV.bool false) [] (AV.bool true) []) (.sc (true) 10 ([AV.agg (Bas.cells b), AV.agg (Coin.cells c), AV.agg [AV.int IntKind.i64 l, AV.int IntKind.i64 i], AV.agg (u8c x.1 ++ [AV.int IntKind.i64 x.2, AV.int IntKind.i64 x.3])]) (AV.tup [AV.int IntKind.i64 (chalK b c l i x), AV.int IntKind.i64 (chalE b c l i x)]) (.sc (true) 11 ([AV.agg (Bas.cells b)]) (AV.bool (validB b)) (.br (!validB b) (.out (AV.bool (chalE b c l i x == (1 : Int) && chalK b c l i x == (0 : Int))) [] (AV.bool true) []) (.sc (true) 7 ([AV.int IntKind.i64 c.4, AV.agg [AV.int IntKind.i64 l, AV.int IntKind.i64 i]]) (AV.bool (nodeB c.4 l i)) (.sc ((!nodeB c.4 l i) == false) 12 ([AV.agg (u8c x.1 ++ [AV.int IntKind.i64 x.2, AV.int IntKind.i64 x.3])]) (AV.bool (ctxB (Cxt.time x) (Cxt.number x))) (.br (!nodeB c.4 l i || !ctxB x.2 x.3) (.out (AV.bool (chalE b c l i x == (2 : Int) && chalK b c l i x == (0 : Int))) [] (AV.bool true) []) (.sc ((chalE b c l i x == (0 : Int)) == true) 13 ([AV.agg (Bas.cells b), AV.agg (Coin.cells c), AV.agg [AV.int IntKind.i64 l, AV.int IntKind.i64 i], AV.agg (u8c x.1 ++ [AV.int IntKind.i64 x.2, AV.int IntKind.i64 x.3])]) (AV.int IntKind.i64 (chalN (Grp.q (Bas.gr b)) c l i x)) (.out (AV.bool (chalE b c l i x == (0 : Int) && chalK b c l i x == chalN (Bas.gr b).2 c l i x)) [] (AV.bool true) []))))))))))))))) (.sc (true) 7 ([AV.int IntKind.i64 depth, AV.agg [AV.int IntKind.i64 l, AV.int IntKind.i64 i]]) (AV.bool (nodeB depth l i)) (.br (!nodeB depth l i) (.br (spanE depth l i != (2 : Int) || spanA depth l i != (0 : Int) || spanZ depth l i != (0 : Int)) (.out (AV.bool false) [] (AV.bool true) []) (.sc (true) 9 ([AV.agg [AV.int IntKind.i64 k0, AV.int IntKind.i64 k1, AV.int IntKind.i64 k2, AV.int IntKind.i64 v, AV.int IntKind.i64 d, AV.int IntKind.i64 k5, AV.int IntKind.i64 k6, AV.int IntKind.i64 k7, AV.int IntKind.i64 k8, AV.int IntKind.i64 k9, AV.int IntKind.i64 k10], AV.agg [AV.int IntKind.i64 (0 : Int), AV.int IntKind.i64 (0 : Int), AV.int IntKind.i64 (0 : Int), AV.int IntKind.i64 (0 : Int), AV.int IntKind.i64 (0 : Int), AV.int IntKind.u8 (0 : Int), AV.int IntKind.u8 (0 : Int), AV.int IntKind.u8 (0 : Int), AV.int IntKind.u8 (0 : Int), AV.int IntKind.u8 (0 : Int), AV.int IntKind.u8 (0 : Int), AV.int IntKind.u8 (0 : Int), AV.int IntKind.u8 (0 : Int), AV.int IntKind.u8 (0 : Int), AV.int IntKind.u8 (0 : Int), AV.int IntKind.u8 (0 : Int), AV.int IntKind.u8 (0 : Int), AV.int IntKind.u8 (0 : Int), AV.int IntKind.u8 (0 : Int), AV.int IntKind.u8 (0 : Int), AV.int IntKind.u8 (0 : Int), AV.int IntKind.u8 (0 : Int), AV.int IntKind.u8 (0 : Int), AV.int IntKind.u8 (0 : Int), AV.int IntKind.u8 (0 : Int), AV.int IntKind.u8 (0 : Int), AV.int IntKind.u8 (0 : Int), AV.int IntKind.u8 (0 : Int), AV.int IntKind.u8 (0 : Int), AV.int IntKind.u8 (0 : Int), AV.int IntKind.u8 (0 : Int), AV.int IntKind.u8 (0 : Int), AV.int IntKind.u8 (0 : Int), AV.int IntKind.u8 (0 : Int), AV.int IntKind.u8 (0 : Int), AV.int IntKind.u8 (0 : Int), AV.int IntKind.u8 (0 : Int), AV.int IntKind.i64 (0 : Int), AV.int IntKind.i64 (0 : Int), AV.int IntKind.i64 (0 : Int), AV.int IntKind.i64 (0 : Int), AV.int IntKind.i64 l, AV.int IntKind.i64 i, AV.int IntKind.u8 (0 : Int), AV.int IntKind.u8 (0 : Int), AV.int IntKind.u8 (0 : Int), AV.int IntKind.u8 (0 : Int), AV.int IntKind.u8 (0 : Int), AV.int IntKind.u8 (0 : Int), AV.int IntKind.u8 (0 : Int), AV.int IntKind.u8 (0 : Int), AV.int IntKind.u8 (0 : Int), AV.int IntKind.u8 (0 : Int), AV.int IntKind.u8 (0 : Int), AV.int IntKind.u8 (0 : Int), AV.int IntKind.u8 (0 : Int), AV.int IntKind.u8 (0 : Int), AV.int IntKind.u8 (0 : Int), AV.int IntKind.u8 (0 : Int), AV.int IntKind.u8 (0 : Int), AV.int IntKind.u8 (0 : Int), AV.int IntKind.u8 (0 : Int), AV.int IntKind.u8 (0 : Int), AV.int IntKind.u8 (0 : Int), AV.int IntKind.u8 (0 : Int), AV.int IntKind.u8 (0 : Int), AV.int IntKind.u8 (0 : Int), AV.int IntKind.u8 (0 : Int), AV.int IntKind.u8 (0 : Int), AV.int IntKind.u8 (0 : Int), AV.int IntKind.u8 (0 : Int), AV.int IntKind.u8 (0 : Int), AV.int IntKind.u8 (0 : Int), AV.int IntKind.u8 (0 : Int), AV.int IntKind.u8 (0 : Int), AV.int IntKind.i64 (0 : Int), AV.int IntKind.i64 (0 : Int), AV.nsl, AV.int IntKind.i64 (0 : Int), AV.nsl]]) (AV.tup [AV.int IntKind.i64 (amV v d l i), AV.int IntKind.i64 (amE v d l i)]) (.br (decide (v < (0 : Int)) || decide (v > (1099511627776 : Int)) || decide (d < (0 : Int)) || decide (d > (5 : Int))) (.br (amE v d l i != (1 : Int) || amV v d l i != (0 : Int)) (.out (AV.bool false) [] (AV.bool true) []) (.sc (true) 10 ([AV.agg (Bas.cells b), AV.agg (Coin.cells c), AV.agg [AV.int IntKind.i64 l, AV.int IntKind.i64 i], AV.agg (u8c x.1 ++ [AV.int IntKind.i64 x.2, AV.int IntKind.i64 x.3])]) (AV.tup [AV.int IntKind.i64 (chalK b c l i x), AV.int IntKind.i64 (chalE b c l i x)]) (.sc (true) 11 ([AV.agg (Bas.cells b)]) (AV.bool (validB b)) (.br (!validB b) (.out (AV.bool (chalE b c l i x == (1 : Int) && chalK b c l i x == (0 : Int))) [] (AV.bool true) []) (.sc (true) 7 ([AV.int IntKind.i64 c.4, AV.agg [AV.int IntKind.i64 l, AV.int IntKind.i64 i]]) (AV.bool (nodeB c.4 l i)) (.sc ((!nodeB c.4 l i) == false) 12 ([AV.agg (u8c x.1 ++ [AV.int IntKind.i64 x.2, AV.int IntKind.i64 x.3])]) (AV.bool (ctxB (Cxt.time x) (Cxt.number x))) (.br (!nodeB c.4 l i || !ctxB x.2 x.3) (.out (AV.bool (chalE b c l i x == (2 : Int) && chalK b c l i x == (0 : Int))) [] (AV.bool true) []) (.sc ((chalE b c l i x == (0 : Int)) == true) 13 ([AV.agg (Bas.cells b), AV.agg (Coin.cells c), AV.agg [AV.int IntKind.i64 l, AV.int IntKind.i64 i], AV.agg (u8c x.1 ++ [AV.int IntKind.i64 x.2, AV.int IntKind.i64 x.3])]) (AV.int IntKind.i64 (chalN (Grp.q (Bas.gr b)) c l i x)) (.out (AV.bool (chalE b c l i x == (0 : Int) && chalK b c l i x == chalN (Bas.gr b).2 c l i x)) [] (AV.bool true) []))))))))) (.sc (true) 7 ([AV.int IntKind.i64 d, AV.agg [AV.int IntKind.i64 l, AV.int IntKind.i64 i]]) (AV.bool (nodeB d l i)) (.br (!nodeB d l i) (.br (amE v d l i != (2 : Int) || amV v d l i != (0 : Int)) (.out (AV.bool false) [] (AV.bool true) []) (.sc (true) 10 ([AV.agg (Bas.cells b), AV.agg (Coin.cells c), AV.agg [AV.int IntKind.i64 l, AV.int IntKind.i64 i], AV.agg (u8c x.1 ++ [AV.int IntKind.i64 x.2, AV.int IntKind.i64 x.3])]) (AV.tup [AV.int IntKind.i64 (chalK b c l i x), AV.int IntKind.i64 (chalE b c l i x)]) (.sc (true) 11 ([AV.agg (Bas.cells b)]) (AV.bool (validB b)) (.br (!validB b) (.out (AV.bool (chalE b c l i x == (1 : Int) && chalK b c l i x == (0 : Int))) [] (AV.bool true) []) (.sc (true) 7 ([AV.int IntKind.i64 c.4, AV.agg [AV.int IntKind.i64 l, AV.int IntKind.i64 i]]) (AV.bool (nodeB c.4 l i)) (.sc ((!nodeB c.4 l i) == false) 12 ([AV.agg (u8c x.1 ++ [AV.int IntKind.i64 x.2, AV.int IntKind.i64 x.3])]) (AV.bool (ctxB (Cxt.time x) (Cxt.number x))) (.br (!nodeB c.4 l i || !ctxB x.2 x.3) (.out (AV.bool (chalE b c l i x == (2 : Int) && chalK b c l i x == (0 : Int))) [] (AV.bool true) []) (.sc ((chalE b c l i x == (0 : Int)) == true) 13 ([AV.agg (Bas.cells b), AV.agg (Coin.cells c), AV.agg [AV.int IntKind.i64 l, AV.int IntKind.i64 i], AV.agg (u8c x.1 ++ [AV.int IntKind.i64 x.2, AV.int IntKind.i64 x.3])]) (AV.int IntKind.i64 (chalN (Grp.q (Bas.gr b)) c l i x)) (.out (AV.bool (chalE b c l i x == (0 : Int) && chalK b c l i x == chalN (Bas.gr b).2 c l i x)) [] (AV.bool true) []))))))))) (.req (((amE v d l i != (0 : Int)) == false) = true → (0 : Int) ≤ l) (.br (amE v d l i != (0 : Int) || amV v d l i != Int.fdiv v ((2 : Int) ^ min (Int.toNat l) (64))) (.out (AV.bool false) [] (AV.bool true) []) (.sc (true) 10 ([AV.agg (Bas.cells b), AV.agg (Coin.cells c), AV.agg [AV.int IntKind.i64 l, AV.int IntKind.i64 i], AV.agg (u8c x.1 ++ [AV.int IntKind.i64 x.2, AV.int IntKind.i64 x.3])]) (AV.tup [AV.int IntKind.i64 (chalK b c l i x), AV.int IntKind.i64 (chalE b c l i x)]) (.sc (true) 11 ([AV.agg (Bas.cells b)]) (AV.bool (validB b)) (.br (!validB b) (.out (AV.bool (chalE b c l i x == (1 : Int) && chalK b c l i x == (0 : Int))) [] (AV.bool true) []) (.sc (true) 7 ([AV.int IntKind.i64 c.4, AV.agg [AV.int IntKind.i64 l, AV.int IntKind.i64 i]]) (AV.bool (nodeB c.4 l i)) (.sc ((!nodeB c.4 l i) == false) 12 ([AV.agg (u8c x.1 ++ [AV.int IntKind.i64 x.2, AV.int IntKind.i64 x.3])]) (AV.bool (ctxB (Cxt.time x) (Cxt.number x))) (.br (!nodeB c.4 l i || !ctxB x.2 x.3) (.out (AV.bool (chalE b c l i x == (2 : Int) && chalK b c l i x == (0 : Int))) [] (AV.bool true) []) (.sc ((chalE b c l i x == (0 : Int)) == true) 13 ([AV.agg (Bas.cells b), AV.agg (Coin.cells c), AV.agg [AV.int IntKind.i64 l, AV.int IntKind.i64 i], AV.agg (u8c x.1 ++ [AV.int IntKind.i64 x.2, AV.int IntKind.i64 x.3])]) (AV.int IntKind.i64 (chalN (Grp.q (Bas.gr b)) c l i x)) (.out (AV.bool (chalE b c l i x == (0 : Int) && chalK b c l i x == chalN (Bas.gr b).2 c l i x)) [] (AV.bool true) []))))))))))))))) (.sc (true) 8 ([AV.int IntKind.i64 depth, AV.agg [AV.int IntKind.i64 l, AV.int IntKind.i64 i]]) (AV.tup [AV.int IntKind.i64 (spanA depth l i), AV.int IntKind.i64 (spanZ depth l i)]) (.br (spanE depth l i != (0 : Int) || spanA depth l i != spanA depth l i || spanZ depth l i != spanZ depth l i) (.out (AV.bool false) [] (AV.bool true) []) (.sc (true) 9 ([AV.agg [AV.int IntKind.i64 k0, AV.int IntKind.i64 k1, AV.int IntKind.i64 k2, AV.int IntKind.i64 v, AV.int IntKind.i64 d, AV.int IntKind.i64 k5, AV.int IntKind.i64 k6, AV.int IntKind.i64 k7, AV.int IntKind.i64 k8, AV.int IntKind.i64 k9, AV.int IntKind.i64 k10], AV.agg [AV.int IntKind.i64 (0 : Int), AV.int IntKind.i64 (0 : Int), AV.int IntKind.i64 (0 : Int), AV.int IntKind.i64 (0 : Int), AV.int IntKind.i64 (0 : Int), AV.int IntKind.u8 (0 : Int), AV.int IntKind.u8 (0 : Int), AV.int IntKind.u8 (0 : Int), AV.int IntKind.u8 (0 : Int), AV.int IntKind.u8 (0 : Int), AV.int IntKind.u8 (0 : Int), AV.int IntKind.u8 (0 : Int), AV.int IntKind.u8 (0 : Int), AV.int IntKind.u8 (0 : Int), AV.int IntKind.u8 (0 : Int), AV.int IntKind.u8 (0 : Int), AV.int IntKind.u8 (0 : Int), AV.int IntKind.u8 (0 : Int), AV.int IntKind.u8 (0 : Int), AV.int IntKind.u8 (0 : Int), AV.int IntKind.u8 (0 : Int), AV.int IntKind.u8 (0 : Int), AV.int IntKind.u8 (0 : Int), AV.int IntKind.u8 (0 : Int), AV.int IntKind.u8 (0 : Int), AV.int IntKind.u8 (0 : Int), AV.int IntKind.u8 (0 : Int), AV.int IntKind.u8 (0 : Int), AV.int IntKind.u8 (0 : Int), AV.int IntKind.u8 (0 : Int), AV.int IntKind.u8 (0 : Int), AV.int IntKind.u8 (0 : Int), AV.int IntKind.u8 (0 : Int), AV.int IntKind.u8 (0 : Int), AV.int IntKind.u8 (0 : Int), AV.int IntKind.u8 (0 : Int), AV.int IntKind.u8 (0 : Int), AV.int IntKind.i64 (0 : Int), AV.int IntKind.i64 (0 : Int), AV.int IntKind.i64 (0 : Int), AV.int IntKind.i64 (0 : Int), AV.int IntKind.i64 l, AV.int IntKind.i64 i, AV.int IntKind.u8 (0 : Int), AV.int IntKind.u8 (0 : Int), AV.int IntKind.u8 (0 : Int), AV.int IntKind.u8 (0 : Int), AV.int IntKind.u8 (0 : Int), AV.int IntKind.u8 (0 : Int), AV.int IntKind.u8 (0 : Int), AV.int IntKind.u8 (0 : Int), AV.int IntKind.u8 (0 : Int), AV.int IntKind.u8 (0 : Int), AV.int IntKind.u8 (0 : Int), AV.int IntKind.u8 (0 : Int), AV.int IntKind.u8 (0 : Int), AV.int IntKind.u8 (0 : Int), AV.int IntKind.u8 (0 : Int), AV.int IntKind.u8 (0 : Int), AV.int IntKind.u8 (0 : Int), AV.int IntKind.u8 (0 : Int), AV.int IntKind.u8 (0 : Int), AV.int IntKind.u8 (0 : Int), AV.int IntKind.u8 (0 : Int), AV.int IntKind.u8 (0 : Int), AV.int IntKind.u8 (0 : Int), AV.int IntKind.u8 (0 : Int), AV.int IntKind.u8 (0 : Int), AV.int IntKind.u8 (0 : Int), AV.int IntKind.u8 (0 : Int), AV.int IntKind.u8 (0 : Int), AV.int IntKind.u8 (0 : Int), AV.int IntKind.u8 (0 : Int), AV.int IntKind.u8 (0 : Int), AV.int IntKind.u8 (0 : Int), AV.int IntKind.i64 (0 : Int), AV.int IntKind.i64 (0 : Int), AV.nsl, AV.int IntKind.i64 (0 : Int), AV.nsl]]) (AV.tup [AV.int IntKind.i64 (amV v d l i), AV.int IntKind.i64 (amE v d l i)]) (.br (decide (v < (0 : Int)) || decide (v > (1099511627776 : Int)) || decide (d < (0 : Int)) || decide (d > (5 : Int))) (.br (amE v d l i != (1 : Int) || amV v d l i != (0 : Int)) (.out (AV.bool false) [] (AV.bool true) []) (.sc (true) 10 ([AV.agg (Bas.cells b), AV.agg (Coin.cells c), AV.agg [AV.int IntKind.i64 l, AV.int IntKind.i64 i], AV.agg (u8c x.1 ++ [AV.int IntKind.i64 x.2, AV.int IntKind.i64 x.3])]) (AV.tup [AV.int IntKind.i64 (chalK b c l i x), AV.int IntKind.i64 (chalE b c l i x)]) (.sc (true) 11 ([AV.agg (Bas.cells b)]) (AV.bool (validB b)) (.br (!validB b) (.out (AV.bool (chalE b c l i x == (1 : Int) && chalK b c l i x == (0 : Int))) [] (AV.bool true) []) (.sc (true) 7 ([AV.int IntKind.i64 c.4, AV.agg [AV.int IntKind.i64 l, AV.int IntKind.i64 i]]) (AV.bool (nodeB c.4 l i)) (.sc ((!nodeB c.4 l i) == false) 12 ([AV.agg (u8c x.1 ++ [AV.int IntKind.i64 x.2, AV.int IntKind.i64 x.3])]) (AV.bool (ctxB (Cxt.time x) (Cxt.number x))) (.br (!nodeB c.4 l i || !ctxB x.2 x.3) (.out (AV.bool (chalE b c l i x == (2 : Int) && chalK b c l i x == (0 : Int))) [] (AV.bool true) []) (.sc ((chalE b c l i x == (0 : Int)) == true) 13 ([AV.agg (Bas.cells b), AV.agg (Coin.cells c), AV.agg [AV.int IntKind.i64 l, AV.int IntKind.i64 i], AV.agg (u8c x.1 ++ [AV.int IntKind.i64 x.2, AV.int IntKind.i64 x.3])]) (AV.int IntKind.i64 (chalN (Grp.q (Bas.gr b)) c l i x)) (.out (AV.bool (chalE b c l i x == (0 : Int) && chalK b c l i x == chalN (Bas.gr b).2 c l i x)) [] (AV.bool true) []))))))))) (.sc (true) 7 ([AV.int IntKind.i64 d, AV.agg [AV.int IntKind.i64 l, AV.int IntKind.i64 i]]) (AV.bool (nodeB d l i)) (.br (!nodeB d l i) (.br (amE v d l i != (2 : Int) || amV v d l i != (0 : Int)) (.out (AV.bool false) [] (AV.bool true) []) (.sc (true) 10 ([AV.agg (Bas.cells b), AV.agg (Coin.cells c), AV.agg [AV.int IntKind.i64 l, AV.int IntKind.i64 i], AV.agg (u8c x.1 ++ [AV.int IntKind.i64 x.2, AV.int IntKind.i64 x.3])]) (AV.tup [AV.int IntKind.i64 (chalK b c l i x), AV.int IntKind.i64 (chalE b c l i x)]) (.sc (true) 11 ([AV.agg (Bas.cells b)]) (AV.bool (validB b)) (.br (!validB b) (.out (AV.bool (chalE b c l i x == (1 : Int) && chalK b c l i x == (0 : Int))) [] (AV.bool true) []) (.sc (true) 7 ([AV.int IntKind.i64 c.4, AV.agg [AV.int IntKind.i64 l, AV.int IntKind.i64 i]]) (AV.bool (nodeB c.4 l i)) (.sc ((!nodeB c.4 l i) == false) 12 ([AV.agg (u8c x.1 ++ [AV.int IntKind.i64 x.2, AV.int IntKind.i64 x.3])]) (AV.bool (ctxB (Cxt.time x) (Cxt.number x))) (.br (!nodeB c.4 l i || !ctxB x.2 x.3) (.out (AV.bool (chalE b c l i x == (2 : Int) && chalK b c l i x == (0 : Int))) [] (AV.bool true) []) (.sc ((chalE b c l i x == (0 : Int)) == true) 13 ([AV.agg (Bas.cells b), AV.agg (Coin.cells c), AV.agg [AV.int IntKind.i64 l, AV.int IntKind.i64 i], AV.agg (u8c x.1 ++ [AV.int IntKind.i64 x.2, AV.int IntKind.i64 x.3])]) (AV.int IntKind.i64 (chalN (Grp.q (Bas.gr b)) c l i x)) (.out (AV.bool (chalE b c l i x == (0 : Int) && chalK b c l i x == chalN (Bas.gr b).2 c l i x)) [] (AV.bool true) []))))))))) (.req (((amE v d l i != (0 : Int)) == false) = true → (0 : Int) ≤ l) (.br (amE v d l i != (0 : Int) || amV v d l i != Int.fdiv v ((2 : Int) ^ min (Int.toNat l) (64))) (.out (AV.bool false) [] (AV.bool true) []) (.sc (true) 10 ([AV.agg (Bas.cells b), AV.agg (Coin.cells c), AV.agg [AV.int IntKind.i64 l, AV.int IntKind.i64 i], AV.agg (u8c x.1 ++ [AV.int IntKind.i64 x.2, AV.int IntKind.i64 x.3])]) (AV.tup [AV.int IntKind.i64 (chalK b c l i x), AV.int IntKind.i64 (chalE b c l i x)]) (.sc (true) 11 ([AV.agg (Bas.cells b)]) (AV.bool (validB b)) (.br (!validB b) (.out (AV.bool (chalE b c l i x == (1 : Int) && chalK b c l i x == (0 : Int))) [] (AV.bool true) []) (.sc (true) 7 ([AV.int IntKind.i64 c.4, AV.agg [AV.int IntKind.i64 l, AV.int IntKind.i64 i]]) (AV.bool (nodeB c.4 l i)) (.sc ((!nodeB c.4 l i) == false) 12 ([AV.agg (u8c x.1 ++ [AV.int IntKind.i64 x.2, AV.int IntKind.i64 x.3])]) (AV.bool (ctxB (Cxt.time x) (Cxt.number x))) (.br (!nodeB c.4 l i || !ctxB x.2 x.3) (.out (AV.bool (chalE b c l i x == (2 : Int) && chalK b c l i x == (0 : Int))) [] (AV.bool true) []) (.sc ((chalE b c l i x == (0 : Int)) == true) 13 ([AV.agg (Bas.cells b), AV.agg (Coin.cells c), AV.agg [AV.int IntKind.i64 l, AV.int IntKind.i64 i], AV.agg (u8c x.1 ++ [AV.int IntKind.i64 x.2, AV.int IntKind.i64 x.3])]) (AV.int IntKind.i64 (chalN (Grp.q (Bas.gr b)) c l i x)) (.out (AV.bool (chalE b c l i x == (0 : Int) && chalK b c l i x == chalN (Bas.gr b).2 c l i x)) [] (AV.bool true) []))))))))))))))))))))))
    (by kernel_rfl) ?_
  refine k_sc (awake32_c) ?_
  refine k_ff ?_
  refine k_sc (span_c (depth) (l) (i)) ?_
  refine k_br (fun h3 => ?_) (fun h3 => ?_)
  · have g3 := (cnd_or_t cnd_dec_t cnd_dec_t) h3
    refine k_br (fun h4 => ?_) (fun h4 => ?_)
    · have g4 := (cnd_or_t (cnd_or_t cnd_bne_t cnd_bne_t) cnd_bne_t) h4
      exact k_out (Ent.of_eq (congrArg AV.bool (by clear c1 c2 c3 c4 hw hr hp; grind)))
    · have g4 := (cnd_or_f (cnd_or_f cnd_bne_f cnd_bne_f) cnd_bne_f) h4
      refine k_sc (amount_z (k0) (k1) (k2) (v) (d) (k5) (k6) (k7) (k8) (k9) (k10) (l) (i)) ?_
      refine k_br (fun h7 => ?_) (fun h7 => ?_)
      · have g7 := (cnd_or_t (cnd_or_t (cnd_or_t cnd_dec_t cnd_dec_t) cnd_dec_t) cnd_dec_t) h7
        refine k_br (fun h8 => ?_) (fun h8 => ?_)
        · have g8 := (cnd_or_t cnd_bne_t cnd_bne_t) h8
          exact k_out (Ent.of_eq (congrArg AV.bool (by clear c1 c2 c3 c4 hw hr hp; grind)))
        · have g8 := (cnd_or_f cnd_bne_f cnd_bne_f) h8
          refine k_sc (c3) ?_
          refine k_sc (c2) ?_
          refine k_br (fun h12 => ?_) (fun h12 => ?_)
          · have g12 := (cnd_not_t cnd_id_f) h12
            exact k_out (Ent.of_eq (congrArg AV.bool (by clear c1 c2 c3 c4 hw hr hp; grind)))
          · have g12 := (cnd_not_f cnd_id_t) h12
            refine k_sc (rnode_c (c.4) (l) (i)) ?_
            refine k_scg (fun h15 => c1) ?_
            refine k_br (fun h16 => ?_) (fun h16 => ?_)
            · have g16 := (cnd_or_t (cnd_not_t cnd_id_f) (cnd_not_t cnd_id_f)) h16
              exact k_out (Ent.of_eq (congrArg AV.bool (by clear c1 c2 c3 c4 hw hr hp; grind)))
            · have g16 := (cnd_or_f (cnd_not_f cnd_id_t) (cnd_not_f cnd_id_t)) h16
              refine k_scg (fun h18 => c4 ((by clear c1 c2 c3 c4 hw hr hp; grind)) ((by clear c1 c2 c3 c4 hw hr hp; grind))) ?_
              exact k_out (Ent.of_eq (congrArg AV.bool (by clear c1 c2 c3 c4 hw hr hp; grind)))
      · have g7 := (cnd_or_f (cnd_or_f (cnd_or_f cnd_dec_f cnd_dec_f) cnd_dec_f) cnd_dec_f) h7
        refine k_sc (rnode_c (d) (l) (i)) ?_
        refine k_br (fun h21 => ?_) (fun h21 => ?_)
        · have g21 := (cnd_not_t cnd_id_f) h21
          refine k_br (fun h22 => ?_) (fun h22 => ?_)
          · have g22 := (cnd_or_t cnd_bne_t cnd_bne_t) h22
            exact k_out (Ent.of_eq (congrArg AV.bool (by clear c1 c2 c3 c4 hw hr hp; grind)))
          · have g22 := (cnd_or_f cnd_bne_f cnd_bne_f) h22
            refine k_sc (c3) ?_
            refine k_sc (c2) ?_
            refine k_br (fun h26 => ?_) (fun h26 => ?_)
            · have g26 := (cnd_not_t cnd_id_f) h26
              exact k_out (Ent.of_eq (congrArg AV.bool (by clear c1 c2 c3 c4 hw hr hp; grind)))
            · have g26 := (cnd_not_f cnd_id_t) h26
              refine k_sc (rnode_c (c.4) (l) (i)) ?_
              refine k_scg (fun h29 => c1) ?_
              refine k_br (fun h30 => ?_) (fun h30 => ?_)
              · have g30 := (cnd_or_t (cnd_not_t cnd_id_f) (cnd_not_t cnd_id_f)) h30
                exact k_out (Ent.of_eq (congrArg AV.bool (by clear c1 c2 c3 c4 hw hr hp; grind)))
              · have g30 := (cnd_or_f (cnd_not_f cnd_id_t) (cnd_not_f cnd_id_t)) h30
                refine k_scg (fun h32 => c4 ((by clear c1 c2 c3 c4 hw hr hp; grind)) ((by clear c1 c2 c3 c4 hw hr hp; grind))) ?_
                exact k_out (Ent.of_eq (congrArg AV.bool (by clear c1 c2 c3 c4 hw hr hp; grind)))
        · have g21 := (cnd_not_f cnd_id_t) h21
          refine k_req (fun _ => (by clear c1 c2 c3 c4 hw hr hp; grind)) ?_
          refine k_br (fun h35 => ?_) (fun h35 => ?_)
          · have g35 := (cnd_or_t cnd_bne_t cnd_bne_t) h35
            exact k_out (Ent.of_eq (congrArg AV.bool (by clear c1 c2 c3 c4 hw hr hp; grind)))
          · have g35 := (cnd_or_f cnd_bne_f cnd_bne_f) h35
            refine k_sc (c3) ?_
            refine k_sc (c2) ?_
            refine k_br (fun h39 => ?_) (fun h39 => ?_)
            · have g39 := (cnd_not_t cnd_id_f) h39
              exact k_out (Ent.of_eq (congrArg AV.bool (by clear c1 c2 c3 c4 hw hr hp; grind)))
            · have g39 := (cnd_not_f cnd_id_t) h39
              refine k_sc (rnode_c (c.4) (l) (i)) ?_
              refine k_scg (fun h42 => c1) ?_
              refine k_br (fun h43 => ?_) (fun h43 => ?_)
              · have g43 := (cnd_or_t (cnd_not_t cnd_id_f) (cnd_not_t cnd_id_f)) h43
                exact k_out (Ent.of_eq (congrArg AV.bool (by clear c1 c2 c3 c4 hw hr hp; grind)))
              · have g43 := (cnd_or_f (cnd_not_f cnd_id_t) (cnd_not_f cnd_id_t)) h43
                refine k_scg (fun h45 => c4 ((by clear c1 c2 c3 c4 hw hr hp; grind)) ((by clear c1 c2 c3 c4 hw hr hp; grind))) ?_
                exact k_out (Ent.of_eq (congrArg AV.bool (by clear c1 c2 c3 c4 hw hr hp; grind)))
  · have g3 := (cnd_or_f cnd_dec_f cnd_dec_f) h3
    refine k_sc (rnode_c (depth) (l) (i)) ?_
    refine k_br (fun h48 => ?_) (fun h48 => ?_)
    · have g48 := (cnd_not_t cnd_id_f) h48
      refine k_br (fun h49 => ?_) (fun h49 => ?_)
      · have g49 := (cnd_or_t (cnd_or_t cnd_bne_t cnd_bne_t) cnd_bne_t) h49
        exact k_out (Ent.of_eq (congrArg AV.bool (by clear c1 c2 c3 c4 hw hr hp; grind)))
      · have g49 := (cnd_or_f (cnd_or_f cnd_bne_f cnd_bne_f) cnd_bne_f) h49
        refine k_sc (amount_z (k0) (k1) (k2) (v) (d) (k5) (k6) (k7) (k8) (k9) (k10) (l) (i)) ?_
        refine k_br (fun h52 => ?_) (fun h52 => ?_)
        · have g52 := (cnd_or_t (cnd_or_t (cnd_or_t cnd_dec_t cnd_dec_t) cnd_dec_t) cnd_dec_t) h52
          refine k_br (fun h53 => ?_) (fun h53 => ?_)
          · have g53 := (cnd_or_t cnd_bne_t cnd_bne_t) h53
            exact k_out (Ent.of_eq (congrArg AV.bool (by clear c1 c2 c3 c4 hw hr hp; grind)))
          · have g53 := (cnd_or_f cnd_bne_f cnd_bne_f) h53
            refine k_sc (c3) ?_
            refine k_sc (c2) ?_
            refine k_br (fun h57 => ?_) (fun h57 => ?_)
            · have g57 := (cnd_not_t cnd_id_f) h57
              exact k_out (Ent.of_eq (congrArg AV.bool (by clear c1 c2 c3 c4 hw hr hp; grind)))
            · have g57 := (cnd_not_f cnd_id_t) h57
              refine k_sc (rnode_c (c.4) (l) (i)) ?_
              refine k_scg (fun h60 => c1) ?_
              refine k_br (fun h61 => ?_) (fun h61 => ?_)
              · have g61 := (cnd_or_t (cnd_not_t cnd_id_f) (cnd_not_t cnd_id_f)) h61
                exact k_out (Ent.of_eq (congrArg AV.bool (by clear c1 c2 c3 c4 hw hr hp; grind)))
              · have g61 := (cnd_or_f (cnd_not_f cnd_id_t) (cnd_not_f cnd_id_t)) h61
                refine k_scg (fun h63 => c4 ((by clear c1 c2 c3 c4 hw hr hp; grind)) ((by clear c1 c2 c3 c4 hw hr hp; grind))) ?_
                exact k_out (Ent.of_eq (congrArg AV.bool (by clear c1 c2 c3 c4 hw hr hp; grind)))
        · have g52 := (cnd_or_f (cnd_or_f (cnd_or_f cnd_dec_f cnd_dec_f) cnd_dec_f) cnd_dec_f) h52
          refine k_sc (rnode_c (d) (l) (i)) ?_
          refine k_br (fun h66 => ?_) (fun h66 => ?_)
          · have g66 := (cnd_not_t cnd_id_f) h66
            refine k_br (fun h67 => ?_) (fun h67 => ?_)
            · have g67 := (cnd_or_t cnd_bne_t cnd_bne_t) h67
              exact k_out (Ent.of_eq (congrArg AV.bool (by clear c1 c2 c3 c4 hw hr hp; grind)))
            · have g67 := (cnd_or_f cnd_bne_f cnd_bne_f) h67
              refine k_sc (c3) ?_
              refine k_sc (c2) ?_
              refine k_br (fun h71 => ?_) (fun h71 => ?_)
              · have g71 := (cnd_not_t cnd_id_f) h71
                exact k_out (Ent.of_eq (congrArg AV.bool (by clear c1 c2 c3 c4 hw hr hp; grind)))
              · have g71 := (cnd_not_f cnd_id_t) h71
                refine k_sc (rnode_c (c.4) (l) (i)) ?_
                refine k_scg (fun h74 => c1) ?_
                refine k_br (fun h75 => ?_) (fun h75 => ?_)
                · have g75 := (cnd_or_t (cnd_not_t cnd_id_f) (cnd_not_t cnd_id_f)) h75
                  exact k_out (Ent.of_eq (congrArg AV.bool (by clear c1 c2 c3 c4 hw hr hp; grind)))
                · have g75 := (cnd_or_f (cnd_not_f cnd_id_t) (cnd_not_f cnd_id_t)) h75
                  refine k_scg (fun h77 => c4 ((by clear c1 c2 c3 c4 hw hr hp; grind)) ((by clear c1 c2 c3 c4 hw hr hp; grind))) ?_
                  exact k_out (Ent.of_eq (congrArg AV.bool (by clear c1 c2 c3 c4 hw hr hp; grind)))
          · have g66 := (cnd_not_f cnd_id_t) h66
            refine k_req (fun _ => (by clear c1 c2 c3 c4 hw hr hp; grind)) ?_
            refine k_br (fun h80 => ?_) (fun h80 => ?_)
            · have g80 := (cnd_or_t cnd_bne_t cnd_bne_t) h80
              exact k_out (Ent.of_eq (congrArg AV.bool (by clear c1 c2 c3 c4 hw hr hp; grind)))
            · have g80 := (cnd_or_f cnd_bne_f cnd_bne_f) h80
              refine k_sc (c3) ?_
              refine k_sc (c2) ?_
              refine k_br (fun h84 => ?_) (fun h84 => ?_)
              · have g84 := (cnd_not_t cnd_id_f) h84
                exact k_out (Ent.of_eq (congrArg AV.bool (by clear c1 c2 c3 c4 hw hr hp; grind)))
              · have g84 := (cnd_not_f cnd_id_t) h84
                refine k_sc (rnode_c (c.4) (l) (i)) ?_
                refine k_scg (fun h87 => c1) ?_
                refine k_br (fun h88 => ?_) (fun h88 => ?_)
                · have g88 := (cnd_or_t (cnd_not_t cnd_id_f) (cnd_not_t cnd_id_f)) h88
                  exact k_out (Ent.of_eq (congrArg AV.bool (by clear c1 c2 c3 c4 hw hr hp; grind)))
                · have g88 := (cnd_or_f (cnd_not_f cnd_id_t) (cnd_not_f cnd_id_t)) h88
                  refine k_scg (fun h90 => c4 ((by clear c1 c2 c3 c4 hw hr hp; grind)) ((by clear c1 c2 c3 c4 hw hr hp; grind))) ?_
                  exact k_out (Ent.of_eq (congrArg AV.bool (by clear c1 c2 c3 c4 hw hr hp; grind)))
    · have g48 := (cnd_not_f cnd_id_t) h48
      refine k_sc (rspan_c (depth) (l) (i) ((by clear c1 c2 c3 c4 hw hr hp; grind))) ?_
      refine k_br (fun h93 => ?_) (fun h93 => ?_)
      · have g93 := (cnd_or_t (cnd_or_t cnd_bne_t cnd_bne_t) cnd_bne_t) h93
        exact k_out (Ent.of_eq (congrArg AV.bool (by clear c1 c2 c3 c4 hw hr hp; grind)))
      · have g93 := (cnd_or_f (cnd_or_f cnd_bne_f cnd_bne_f) cnd_bne_f) h93
        refine k_sc (amount_z (k0) (k1) (k2) (v) (d) (k5) (k6) (k7) (k8) (k9) (k10) (l) (i)) ?_
        refine k_br (fun h96 => ?_) (fun h96 => ?_)
        · have g96 := (cnd_or_t (cnd_or_t (cnd_or_t cnd_dec_t cnd_dec_t) cnd_dec_t) cnd_dec_t) h96
          refine k_br (fun h97 => ?_) (fun h97 => ?_)
          · have g97 := (cnd_or_t cnd_bne_t cnd_bne_t) h97
            exact k_out (Ent.of_eq (congrArg AV.bool (by clear c1 c2 c3 c4 hw hr hp; grind)))
          · have g97 := (cnd_or_f cnd_bne_f cnd_bne_f) h97
            refine k_sc (c3) ?_
            refine k_sc (c2) ?_
            refine k_br (fun h101 => ?_) (fun h101 => ?_)
            · have g101 := (cnd_not_t cnd_id_f) h101
              exact k_out (Ent.of_eq (congrArg AV.bool (by clear c1 c2 c3 c4 hw hr hp; grind)))
            · have g101 := (cnd_not_f cnd_id_t) h101
              refine k_sc (rnode_c (c.4) (l) (i)) ?_
              refine k_scg (fun h104 => c1) ?_
              refine k_br (fun h105 => ?_) (fun h105 => ?_)
              · have g105 := (cnd_or_t (cnd_not_t cnd_id_f) (cnd_not_t cnd_id_f)) h105
                exact k_out (Ent.of_eq (congrArg AV.bool (by clear c1 c2 c3 c4 hw hr hp; grind)))
              · have g105 := (cnd_or_f (cnd_not_f cnd_id_t) (cnd_not_f cnd_id_t)) h105
                refine k_scg (fun h107 => c4 ((by clear c1 c2 c3 c4 hw hr hp; grind)) ((by clear c1 c2 c3 c4 hw hr hp; grind))) ?_
                exact k_out (Ent.of_eq (congrArg AV.bool (by clear c1 c2 c3 c4 hw hr hp; grind)))
        · have g96 := (cnd_or_f (cnd_or_f (cnd_or_f cnd_dec_f cnd_dec_f) cnd_dec_f) cnd_dec_f) h96
          refine k_sc (rnode_c (d) (l) (i)) ?_
          refine k_br (fun h110 => ?_) (fun h110 => ?_)
          · have g110 := (cnd_not_t cnd_id_f) h110
            refine k_br (fun h111 => ?_) (fun h111 => ?_)
            · have g111 := (cnd_or_t cnd_bne_t cnd_bne_t) h111
              exact k_out (Ent.of_eq (congrArg AV.bool (by clear c1 c2 c3 c4 hw hr hp; grind)))
            · have g111 := (cnd_or_f cnd_bne_f cnd_bne_f) h111
              refine k_sc (c3) ?_
              refine k_sc (c2) ?_
              refine k_br (fun h115 => ?_) (fun h115 => ?_)
              · have g115 := (cnd_not_t cnd_id_f) h115
                exact k_out (Ent.of_eq (congrArg AV.bool (by clear c1 c2 c3 c4 hw hr hp; grind)))
              · have g115 := (cnd_not_f cnd_id_t) h115
                refine k_sc (rnode_c (c.4) (l) (i)) ?_
                refine k_scg (fun h118 => c1) ?_
                refine k_br (fun h119 => ?_) (fun h119 => ?_)
                · have g119 := (cnd_or_t (cnd_not_t cnd_id_f) (cnd_not_t cnd_id_f)) h119
                  exact k_out (Ent.of_eq (congrArg AV.bool (by clear c1 c2 c3 c4 hw hr hp; grind)))
                · have g119 := (cnd_or_f (cnd_not_f cnd_id_t) (cnd_not_f cnd_id_t)) h119
                  refine k_scg (fun h121 => c4 ((by clear c1 c2 c3 c4 hw hr hp; grind)) ((by clear c1 c2 c3 c4 hw hr hp; grind))) ?_
                  exact k_out (Ent.of_eq (congrArg AV.bool (by clear c1 c2 c3 c4 hw hr hp; grind)))
          · have g110 := (cnd_not_f cnd_id_t) h110
            refine k_req (fun _ => (by clear c1 c2 c3 c4 hw hr hp; grind)) ?_
            refine k_br (fun h124 => ?_) (fun h124 => ?_)
            · have g124 := (cnd_or_t cnd_bne_t cnd_bne_t) h124
              exact k_out (Ent.of_eq (congrArg AV.bool (by clear c1 c2 c3 c4 hw hr hp; grind)))
            · have g124 := (cnd_or_f cnd_bne_f cnd_bne_f) h124
              refine k_sc (c3) ?_
              refine k_sc (c2) ?_
              refine k_br (fun h128 => ?_) (fun h128 => ?_)
              · have g128 := (cnd_not_t cnd_id_f) h128
                exact k_out (Ent.of_eq (congrArg AV.bool (by clear c1 c2 c3 c4 hw hr hp; grind)))
              · have g128 := (cnd_not_f cnd_id_t) h128
                refine k_sc (rnode_c (c.4) (l) (i)) ?_
                refine k_scg (fun h131 => c1) ?_
                refine k_br (fun h132 => ?_) (fun h132 => ?_)
                · have g132 := (cnd_or_t (cnd_not_t cnd_id_f) (cnd_not_t cnd_id_f)) h132
                  exact k_out (Ent.of_eq (congrArg AV.bool (by clear c1 c2 c3 c4 hw hr hp; grind)))
                · have g132 := (cnd_or_f (cnd_not_f cnd_id_t) (cnd_not_f cnd_id_t)) h132
                  refine k_scg (fun h134 => c4 ((by clear c1 c2 c3 c4 hw hr hp; grind)) ((by clear c1 c2 c3 c4 hw hr hp; grind))) ?_
                  exact k_out (Ent.of_eq (congrArg AV.bool (by clear c1 c2 c3 c4 hw hr hp; grind)))

end Go.Proofs.YtmhipmiacghgeaaDoor

namespace Go.Sp
open Go Go.Am

def u8s (n : Nat) : List CT := List.replicate n (.int .u8)
def spendT : List CT := [.int .i64, .int .i64, .int .i64, .int .i64, .int .i64] ++ u8s 32 ++ [.int .i64, .int .i64, .int .i64, .int .i64, .int .i64, .int .i64] ++ u8s 32 ++ [.int .i64, .int .i64, .sl [.int .i64, .int .i64, .int .i64], .int .i64, .sl (u8s 32)]

/-- The spend with these cells. -/
def spendOf (g : Nat → AV) : Spend :=
  { bank := intOfAV (g 0), epoch := intOfAV (g 1), denom := intOfAV (g 2), depth := intOfAV (g 3), a := intOfAV (g 4), root := fun j => intOfAV (g (5 + j)),
    z := intOfAV (g 37), sa := intOfAV (g 38), sb := intOfAV (g 39), r := intOfAV (g 40), level := intOfAV (g 41), index := intOfAV (g 42), payee := fun j => intOfAV (g (43 + j)),
    time := intOfAV (g 75), number := intOfAV (g 76), nl := islN (g 77), lf := fun i j => intOfAV (islF (g 77) i j), pidx := intOfAV (g 78), np := islN (g 79), pf := fun i j => intOfAV (islF (g 79) i j) }

set_option maxRecDepth 100000 in
theorem spend_of {w : World} {cs : List Value} (h : Fits w spendT cs) : ∃ s : Spend, Rel noB w s.av (.agg cs.toArray) := by
  obtain ⟨g, hg⟩ := h.pick
  refine ⟨spendOf g, h.agg hg ?_⟩
  show EntL [] _ (Spend.cw (spendOf g) (.isl 3 (islN (g 77)) fun i j => .int .i64 (intOfAV (islF (g 77) i j))) (.isl 32 (islN (g 79)) fun i j => .int .u8 (intOfAV (islF (g 79) i j))))
  have hl : ∀ os, Ent os (g 77) (.isl 3 (islN (g 77)) fun i j => .int .i64 (intOfAV (islF (g 77) i j))) := fun os => canonL (cs := [.int .i64, .int .i64, .int .i64]) (hg 77 _ rfl).1 rfl
  have hp : ∀ os, Ent os (g 79) (.isl 32 (islN (g 79)) fun i j => .int .u8 (intOfAV (islF (g 79) i j))) := fun os => canonL (cs := u8s 32) (hg 79 _ rfl).1 rfl
  have hi : ∀ os j k, spendT[j]? = some (.int k) → Ent os (g j) (.int k (intOfAV (g j))) := fun os j k hj => canonI (hg j _ hj).1
  unfold Spend.cw
  exact ⟨hi _ 0 _ rfl, hi _ 1 _ rfl, hi _ 2 _ rfl, hi _ 3 _ rfl, hi _ 4 _ rfl, hi _ 5 _ rfl, hi _ 6 _ rfl, hi _ 7 _ rfl, hi _ 8 _ rfl, hi _ 9 _ rfl, hi _ 10 _ rfl, hi _ 11 _ rfl, hi _ 12 _ rfl, hi _ 13 _ rfl, hi _ 14 _ rfl, hi _ 15 _ rfl, hi _ 16 _ rfl, hi _ 17 _ rfl, hi _ 18 _ rfl, hi _ 19 _ rfl, hi _ 20 _ rfl, hi _ 21 _ rfl, hi _ 22 _ rfl, hi _ 23 _ rfl, hi _ 24 _ rfl, hi _ 25 _ rfl, hi _ 26 _ rfl, hi _ 27 _ rfl, hi _ 28 _ rfl, hi _ 29 _ rfl, hi _ 30 _ rfl, hi _ 31 _ rfl, hi _ 32 _ rfl, hi _ 33 _ rfl, hi _ 34 _ rfl, hi _ 35 _ rfl, hi _ 36 _ rfl, hi _ 37 _ rfl, hi _ 38 _ rfl, hi _ 39 _ rfl, hi _ 40 _ rfl, hi _ 41 _ rfl, hi _ 42 _ rfl, hi _ 43 _ rfl, hi _ 44 _ rfl, hi _ 45 _ rfl, hi _ 46 _ rfl, hi _ 47 _ rfl, hi _ 48 _ rfl, hi _ 49 _ rfl, hi _ 50 _ rfl, hi _ 51 _ rfl, hi _ 52 _ rfl, hi _ 53 _ rfl, hi _ 54 _ rfl, hi _ 55 _ rfl, hi _ 56 _ rfl, hi _ 57 _ rfl, hi _ 58 _ rfl, hi _ 59 _ rfl, hi _ 60 _ rfl, hi _ 61 _ rfl, hi _ 62 _ rfl, hi _ 63 _ rfl, hi _ 64 _ rfl, hi _ 65 _ rfl, hi _ 66 _ rfl, hi _ 67 _ rfl, hi _ 68 _ rfl, hi _ 69 _ rfl, hi _ 70 _ rfl, hi _ 71 _ rfl, hi _ 72 _ rfl, hi _ 73 _ rfl, hi _ 74 _ rfl, hi _ 75 _ rfl, hi _ 76 _ rfl, hl _, hi _ 78 _ rfl, hp _, trivial⟩

end Go.Sp

namespace Go.Sp
open Go Go.Am

def i64s (n : Nat) : List CT := List.replicate n (.int .i64)
def chnT : List CT := spendT ++ [.sl spendT]
def escT : List CT := [.int .i64, .int .i64, .sl [.int .i64], .int .i64, .sl [.int .i64]]
def payT : List CT := [.int .i64, .sl spendT, .sl chnT, .sl escT]
def invT : List CT := u8s 32 ++ i64s 3

def chnOf (g : Nat → AV) : Chn := ⟨spendOf g, islN (g 80), fun i => spendOf (islF (g 80) i)⟩
def escOf (g : Nat → AV) : Esc := ⟨intOfAV (g 0), intOfAV (g 1), islN (g 2), fun i => intOfAV (islF (g 2) i 0), intOfAV (g 3), islN (g 4), fun i => intOfAV (islF (g 4) i 0)⟩
def payOf (g : Nat → AV) : Pay := ⟨intOfAV (g 0), islN (g 1), fun i => spendOf (islF (g 1) i), islN (g 2), fun i => chnOf (islF (g 2) i), islN (g 3), fun i => escOf (islF (g 3) i)⟩
def invOf (g : Nat → AV) : Inv := ⟨fun j => intOfAV (g j), intOfAV (g 32), intOfAV (g 33), intOfAV (g 34)⟩

set_option maxRecDepth 100000 in
theorem pay_of {w : World} {cs : List Value} (h : Fits w payT cs) : ∃ p : Pay, Rel noB w p.av (.agg cs.toArray) ∧ p.nc ≤ maxLen ∧ ∀ i, i < p.nc → (p.ch i).n ≤ maxLen := by
  obtain ⟨g, hg, hr⟩ := h.canon
  have h2 := (hg 2 (.sl chnT) rfl).sl_inv
  refine ⟨payOf g, ?_, h2.1, fun i hi => ((h2.2 i 80 (.sl spendT) hi rfl).sl_inv).1⟩
  exact hr

set_option maxRecDepth 100000 in
theorem inv_of {w : World} {cs : List Value} (h : Fits w invT cs) : ∃ p : Inv, Rel noB w p.av (.agg cs.toArray) := by
  obtain ⟨g, hg, hr⟩ := h.canon
  exact ⟨invOf g, hr⟩

end Go.Sp

namespace Go.Sp
open Go Go.Am
def coinT : List CT := i64s 5 ++ u8s 32 ++ i64s 4
def ctxT : List CT := u8s 32 ++ i64s 2
def basOf (g : Nat → AV) : Bas := ⟨⟨intOfAV (g 0), intOfAV (g 1), intOfAV (g 2)⟩, intOfAV (g 3), intOfAV (g 4), intOfAV (g 5)⟩
def coinOf (g : Nat → AV) : Coin := ⟨intOfAV (g 0), intOfAV (g 1), intOfAV (g 2), intOfAV (g 3), intOfAV (g 4), fun j => intOfAV (g (5 + j)), intOfAV (g 37), intOfAV (g 38), intOfAV (g 39), intOfAV (g 40)⟩
def cxtOf (g : Nat → AV) : Cxt := ⟨fun j => intOfAV (g j), intOfAV (g 32), intOfAV (g 33)⟩
theorem cell_i64 {a : AV} (h : CellOk (.int .i64) a) : -9223372036854775808 ≤ intOfAV a ∧ intOfAV a ≤ 9223372036854775807 := by
  obtain ⟨h1, h2⟩ := (Lit.wf_int_iff _ _).1 h.int_inv
  exact ⟨Int.le_trans (by decide) h1, Int.le_trans h2 (by decide)⟩
theorem cell_u8 {a : AV} (h : CellOk (.int .u8) a) : 0 ≤ intOfAV a ∧ intOfAV a < 256 := by
  obtain ⟨h1, h2⟩ := (Lit.wf_int_iff _ _).1 h.int_inv
  exact ⟨Int.le_trans (by decide) h1, Int.lt_of_le_of_lt h2 (by decide)⟩
theorem u8_by {ts : List CT} {g : Nat → AV} {k n : Nat} (h : ∀ (j : Nat) c, ts[j]? = some c → CellOk c (g j)) (ht : ∀ j, j < n → ts[k + j]? = some (.int .u8)) : byB (fun j => intOfAV (g (k + j))) n := fun i hi => cell_u8 (h (k + i) _ (ht i hi))
theorem coinT_u8 : ∀ j, j < 32 → coinT[5 + j]? = some (.int .u8) := fun j hj => by
  show ((i64s 5 ++ u8s 32) ++ i64s 4)[5 + j]? = _
  rw [List.getElem?_append_left (by simp only [i64s, u8s, List.length_append, List.length_replicate]; omega), List.getElem?_append_right (by simp only [i64s, List.length_replicate]; omega)]
  unfold u8s
  rw [List.getElem?_replicate, if_pos (by simp only [i64s, List.length_replicate]; omega)]
theorem ctxT_u8 : ∀ j, j < 32 → ctxT[j]? = some (.int .u8) := fun j hj => by
  show (u8s 32 ++ i64s 2)[j]? = _
  rw [List.getElem?_append_left (by simp only [u8s, List.length_replicate]; omega)]
  unfold u8s
  rw [List.getElem?_replicate, if_pos hj]
theorem coin_by {g : Nat → AV} (h : ∀ (j : Nat) c, coinT[j]? = some c → CellOk c (g j)) : byB (coinOf g).root 32 := u8_by (k := 5) h coinT_u8
theorem cxt_by {g : Nat → AV} (h : ∀ (j : Nat) c, ctxT[j]? = some c → CellOk c (g j)) : byB (cxtOf g).payee 32 := fun i hi => cell_u8 (h i _ (ctxT_u8 i hi))
theorem basOf_w {g : Nat → AV} (h : ∀ (j : Nat) c, (i64s 6)[j]? = some c → CellOk c (g j)) : (basOf g).gr.W :=
  ⟨(cell_i64 (h 0 _ rfl)).2, (cell_i64 (h 1 _ rfl)).2⟩
end Go.Sp

namespace Go.Am
open Go

theorem laid_at {P : Program} {w : World} : ∀ {laid : List (String × DataW Unit)} {ps : List MemPlace}, DataW.LaidVars P w laid ps → ∀ {i : Nat} {n : String} {d : DataW Unit}, laid[i]? = some (n, d) →
    ∃ g t cs fuel p, P.globalNamed n = some g ∧ (P.globals[g]?).map (·.type) = some t ∧ w.var? P n = some cs ∧ DataW.trod (fun _ => ()) P w 0 (fun _ => true) false fuel t cs.toList = some (d, p)
  | [], _, _, i, n, d, h => by simp at h
  | (n', d') :: r, ps, ⟨g, t, cs, fuel, p, q, h1, h2, h3, h4, _, _⟩, 0, n, d, h => by
    simp only [List.getElem?_cons_zero, Option.some.injEq, Prod.mk.injEq] at h
    obtain ⟨rfl, rfl⟩ := h
    exact ⟨g, t, cs, fuel, p, h1, h2, h3, h4⟩
  | (n', d') :: r, ps, ⟨g, t, cs, fuel, p, q, h1, h2, h3, h4, h5, _⟩, i + 1, n, d, h => laid_at h5 (by simpa using h)

/-- Is the variable an array of so many integers? -/
def arrOk (P : Program) (g n : Nat) (k : IntKind) : Bool :=
  match (P.globals[g]?).map (·.type) with
  | some t =>
    match P.underlying t with
    | some (.array m e) =>
      match P.underlying e with
      | some (.int k') => Nat.beq m n && Nat.beq (P.cellsOf e) 1 && decide (k' = k)
      | _ => false
    | _ => false
  | none => false
theorem arrOk_inv {P : Program} {g n : Nat} {k : IntKind} (h : arrOk P g n k = true) : ∃ t e, (P.globals[g]?).map (·.type) = some t ∧ P.underlying t = some (.array n e) ∧ P.underlying e = some (.int k) ∧ P.cellsOf e = 1 := by
  unfold arrOk at h
  split at h
  · rename_i t ht
    split at h
    · rename_i m e hu
      split at h
      · rename_i k' he
        simp only [Bool.and_eq_true, decide_eq_true_eq, Nat.beq_eq] at h
        obtain ⟨⟨rfl, h2⟩, rfl⟩ := h
        exact ⟨t, e, ht, hu, he, h2⟩
      · cases h
    · cases h
  · cases h

theorem glob_ints {P : Program} {w : World} {β : Book} {laid : List (String × DataW Unit)} (h : laidMetH P laid w) (hp : (laid.all fun x => x.2.handleName?.isNone) = true) (i : Nat) (name : String) {g n : Nat}
    {k : IntKind} {F : Nat → Int} (hl : laid[i]? = some (name, .agg ((List.range n).map fun j => .lit (.int k (F j))))) (hg : P.globalNamed name = some g) (ho : arrOk P g n k = true) (hn : 0 < n) (hb : β.free g) : Rel β w (.ipt n fun j => .int k (F j)) (.pointer (some ⟨g, 0, none⟩)) := by
  obtain ⟨t, e, ht, hu, he, hc⟩ := arrOk_inv ho
  rw [MakeChecks.laidMetH_plain _ _ _ hp] at h
  obtain ⟨ps, hv, _, _⟩ := h
  obtain ⟨g', t', cs, fuel, p, h1, h2, h3, h4⟩ := laid_at hv hl
  obtain rfl := Option.some.inj (hg.symm.trans h1)
  obtain rfl := Option.some.inj (ht.symm.trans h2)
  obtain ⟨xs, m, rfl, hx, hlen, hxl, hel⟩ := DataW.trod_array hu h4
  simp only [Prod.mk.injEq, DataW.agg.injEq] at hx
  obtain ⟨hx, _⟩ := hx
  have cell : ∀ j, j < n → cs[j]? = some (.int k (F j)) := fun j hj => by
    have hj' := hel j hj
    rw [hc, Nat.mul_one, List.getElem?_eq_getElem (by omega : j < xs.length)] at hj'
    obtain ⟨v, e1, e2, _⟩ := DataW.trod_int he hj'
    have e3 : (xs.map (·.1))[j]? = some (.lit (.int k v)) := by rw [List.getElem?_map, List.getElem?_eq_getElem (by omega : j < xs.length), e2]; rfl
    rw [← hx] at e3
    simp only [List.getElem?_map, List.getElem?_range hj, Option.map_some, Option.some.injEq, DataW.lit.injEq, Lit.int.injEq, true_and] at e3
    subst e3
    have e4 : (List.take 1 (List.drop j cs.toList))[0]? = some (.int k (F j)) := by rw [e1]; rfl
    rw [List.getElem?_take_of_lt (by decide), List.getElem?_drop, Nat.add_zero] at e4
    simpa using e4
  refine .ipt (fun j => .int k (F j)) hn hb (fun j hj => ?_) (fun _ _ => rfl) (fun _ _ => .int) (fun _ _ => .int)
  rw [World.var?_cell hg h3]
  simpa using cell j hj
end Go.Am
