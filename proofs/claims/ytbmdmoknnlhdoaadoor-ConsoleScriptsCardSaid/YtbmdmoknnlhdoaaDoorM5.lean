/- Part of the proof: LL12, Cns10. -/
import Derived.Test.YtbmdmoknnlhdoaaDoorM4
import Derived.Test.YtbmdmoknnlhdoaaDoorProg
namespace Go.Proofs.YtbmdmoknnlhdoaaDoor
open Go Go.Am Go.Sp Go.Lib Go.RowKit
set_option maxRecDepth 100000

theorem words_c (m : GP) (s : Str) (hq : s.length < 4294967281) : Pure Tryd.prog (gl0 m) 33 [.str (bs s)] (.isl 1 (wordsR s).length fun i _ => .str (bs ((wordsR s).getD i []))) := by
  have zs := bs_size s
  refine pure_sk (own := ow0) Tryd.func33 (by kernel_rfl) mixed (by kernel_rfl)
    (.loop ({ x : Nat × Str × List Str // (fun (x : Nat × Str × List Str) => WoP s x) x }) (fun (x : { x : Nat × Str × List Str // (fun (x : Nat × Str × List Str) => WoP s x) x }) => mkSt [0, 3, 4, 5] [AV.str (bs s), AV.osl (0 : Nat) (1 : Nat) (0 : Nat) (List.length (Prod.snd (Prod.snd (x.1)))), AV.str (bs (Prod.fst (Prod.snd (x.1)))), Zi (↑(Prod.fst (x.1)) : Int)] [some { es := (1 : Nat), n := List.length (Prod.snd (Prod.snd (x.1))), mu := true, f := Rep.row fun (i : Nat) => rowS (List.getD (Prod.snd (Prod.snd (x.1))) i []) }]) (fun (x : { x : Nat × Str × List Str // (fun (x : Nat × Str × List Str) => WoP s x) x }) => (fun (x : Nat × Str × List Str) => List.length s - Prod.fst x) (x.1)) (⟨((0 : Nat), [], []), ⟨Nat.zero_le (List.length s), ⟨Nat.zero_le (Prod.fst ((0 : Nat), [], [])), ⟨Nat.zero_le (Prod.fst ((0 : Nat), [], [])), rfl⟩⟩⟩⟩) ([0, 3, 4, 5]) ([288]) ([AV.str (bs s), AV.nsl, AV.str { data := #[] }, Zi 0]) ([some { es := 1, n := 0, mu := true, f := Rep.lst [] }]) (fun x0 => (.req ((decide ((↑(x0.1).1 : Int) < (↑(ByteArray.size (bs s)) : Int)) == true) = true → (0 : Int) ≤ (↑(x0.1).1 : Int) ∧ (↑(x0.1).1 : Int) < (↑(ByteArray.size (bs s)) : Int)) (.br (decide ((↑(x0.1).1 : Int) < (↑(ByteArray.size (bs s)) : Int)) && (↑(UInt8.toNat (List.getD (Array.toList (ByteArray.data (bs s))) (Int.toNat (↑(x0.1).1 : Int)) (0 : UInt8))) : Int) != (35 : Int)) (.req ((0 : Int) ≤ (↑(x0.1).1 : Int) ∧ (↑(x0.1).1 : Int) < (↑(ByteArray.size (bs s)) : Int)) (.req ((((↑(UInt8.toNat (List.getD (Array.toList (ByteArray.data (bs s))) (Int.toNat (↑(x0.1).1 : Int)) (0 : UInt8))) : Int) != (32 : Int)) == true) = true → (0 : Int) ≤ (↑(x0.1).1 : Int) ∧ (↑(x0.1).1 : Int) < (↑(ByteArray.size (bs s)) : Int)) (.br ((↑(UInt8.toNat (List.getD (Array.toList (ByteArray.data (bs s))) (Int.toNat (↑(x0.1).1 : Int)) (0 : UInt8))) : Int) != (32 : Int) && (↑(UInt8.toNat (List.getD (Array.toList (ByteArray.data (bs s))) (Int.toNat (↑(x0.1).1 : Int)) (0 : UInt8))) : Int) != (9 : Int)) (.req ((0 : Int) ≤ (↑(x0.1).1 : Int) ∧ (↑(x0.1).1 : Int) ≤ IntKind.wrap IntKind.i64 ((↑(x0.1).1 : Int) + (1 : Int)) ∧ IntKind.wrap IntKind.i64 ((↑(x0.1).1 : Int) + (1 : Int)) ≤ (↑(ByteArray.size (bs s)) : Int)) (.req (ByteArray.size (bs (Prod.snd (x0.1)).1) + ByteArray.size (ByteArray.extract (bs s) (Int.toNat (↑(x0.1).1 : Int)) (Int.toNat (↑(x0.1).1 : Int) + (Int.toNat (IntKind.wrap IntKind.i64 ((↑(x0.1).1 : Int) + (1 : Int))) - Int.toNat (↑(x0.1).1 : Int)))) ≤ 9223372036854775807) (.again (Again (0) (fun (x : { x : Nat × Str × List Str // (fun (x : Nat × Str × List Str) => WoP s x) x }) => mkSt [0, 3, 4, 5] [AV.str (bs s), AV.osl (0 : Nat) (1 : Nat) (0 : Nat) (List.length (Prod.snd (Prod.snd (x.1)))), AV.str (bs (Prod.fst (Prod.snd (x.1)))), Zi (↑(Prod.fst (x.1)) : Int)] [some { es := (1 : Nat), n := List.length (Prod.snd (Prod.snd (x.1))), mu := true, f := Rep.row fun (i : Nat) => rowS (List.getD (Prod.snd (Prod.snd (x.1))) i []) }]) (fun (x : { x : Nat × Str × List Str // (fun (x : Nat × Str × List Str) => WoP s x) x }) => (fun (x : Nat × Str × List Str) => List.length s - Prod.fst x) (x.1)) x0) ([0, 3, 4, 5]) ([0]) ([AV.str (bs s), AV.osl (0) (1) (0) (List.length (Prod.snd (Prod.snd (x0.1)))), AV.str (bs (Prod.snd (x0.1)).1 ++ ByteArray.extract (bs s) (Int.toNat (↑(x0.1).1 : Int)) (Int.toNat (↑(x0.1).1 : Int) + (Int.toNat (IntKind.wrap IntKind.i64 ((↑(x0.1).1 : Int) + (1 : Int))) - Int.toNat (↑(x0.1).1 : Int)))), Zi (IntKind.wrap IntKind.i64 ((↑(x0.1).1 : Int) + (1 : Int)))]) ([some { es := 1, n := List.length (Prod.snd (Prod.snd (x0.1))), mu := true, f := Rep.row fun (i : Nat) => [AV.str (bs (List.getD (Prod.snd (Prod.snd (x0.1))) i []))] }])))) (.br (!ByteArray.toList (bs (Prod.fst (Prod.snd (x0.1)))) == ByteArray.toList { data := #[] }) (.req ((List.length (Prod.snd (Prod.snd (x0.1))) + 1) * 16 ≤ 140737488355328) (.again (Again (0) (fun (x : { x : Nat × Str × List Str // (fun (x : Nat × Str × List Str) => WoP s x) x }) => mkSt [0, 3, 4, 5] [AV.str (bs s), AV.osl (0 : Nat) (1 : Nat) (0 : Nat) (List.length (Prod.snd (Prod.snd (x.1)))), AV.str (bs (Prod.fst (Prod.snd (x.1)))), Zi (↑(Prod.fst (x.1)) : Int)] [some { es := (1 : Nat), n := List.length (Prod.snd (Prod.snd (x.1))), mu := true, f := Rep.row fun (i : Nat) => rowS (List.getD (Prod.snd (Prod.snd (x.1))) i []) }]) (fun (x : { x : Nat × Str × List Str // (fun (x : Nat × Str × List Str) => WoP s x) x }) => (fun (x : Nat × Str × List Str) => List.length s - Prod.fst x) (x.1)) x0) ([0, 3, 4, 5]) ([201]) ([AV.str (bs s), AV.osl (0) (1) (0) (List.length (Prod.snd (Prod.snd (x0.1))) + 1), AV.str { data := #[] }, Zi (IntKind.wrap IntKind.i64 ((↑(x0.1).1 : Int) + (1 : Int)))]) ([some { es := 1, n := List.length (Prod.snd (Prod.snd (x0.1))) + 1, mu := true, f := Rep.cat (List.length (Prod.snd (Prod.snd (x0.1)))) (Rep.row fun (i : Nat) => [AV.str (bs (List.getD (Prod.snd (Prod.snd (x0.1))) i []))]) (Rep.lst [[AV.str (bs (Prod.snd (x0.1)).1)]]) }]))) (.again (Again (0) (fun (x : { x : Nat × Str × List Str // (fun (x : Nat × Str × List Str) => WoP s x) x }) => mkSt [0, 3, 4, 5] [AV.str (bs s), AV.osl (0 : Nat) (1 : Nat) (0 : Nat) (List.length (Prod.snd (Prod.snd (x.1)))), AV.str (bs (Prod.fst (Prod.snd (x.1)))), Zi (↑(Prod.fst (x.1)) : Int)] [some { es := (1 : Nat), n := List.length (Prod.snd (Prod.snd (x.1))), mu := true, f := Rep.row fun (i : Nat) => rowS (List.getD (Prod.snd (Prod.snd (x.1))) i []) }]) (fun (x : { x : Nat × Str × List Str // (fun (x : Nat × Str × List Str) => WoP s x) x }) => (fun (x : Nat × Str × List Str) => List.length s - Prod.fst x) (x.1)) x0) ([0, 3, 4, 5]) ([0]) ([AV.str (bs s), AV.osl (0) (1) (0) (List.length (Prod.snd (Prod.snd (x0.1)))), AV.str { data := #[] }, Zi (IntKind.wrap IntKind.i64 ((↑(x0.1).1 : Int) + (1 : Int)))]) ([some { es := 1, n := List.length (Prod.snd (Prod.snd (x0.1))), mu := true, f := Rep.row fun (i : Nat) => [AV.str (bs (List.getD (Prod.snd (Prod.snd (x0.1))) i []))] }])))))) (.br (!ByteArray.toList (bs (Prod.fst (Prod.snd (x0.1)))) == ByteArray.toList { data := #[] }) (.req ((List.length (Prod.snd (Prod.snd (x0.1))) + 1) * 16 ≤ 140737488355328) (.out (AV.isl (1) (List.length (Prod.snd (Prod.snd (x0.1))) + 1) fun (r k : Nat) => mixA (Nat.blt (r + 0) (List.length (Prod.snd (Prod.snd (x0.1))))) (atL [AV.str (bs (List.getD (Prod.snd (Prod.snd (x0.1))) (r + 0) []))] k) (atL (List.getD [[AV.str (bs (Prod.snd (x0.1)).1)]] (r + 0 - List.length (Prod.snd (Prod.snd (x0.1)))) []) k)) [] (AV.isl (1 : Nat) (List.length (wordsR s)) fun (i x : Nat) => AV.str (bs (List.getD (wordsR s) i []))) [])) (.out (AV.isl (1) (List.length (Prod.snd (Prod.snd (x0.1)))) fun (r k : Nat) => atL [AV.str (bs (List.getD (Prod.snd (Prod.snd (x0.1))) (r + 0) []))] k) [] (AV.isl (1 : Nat) (List.length (wordsR s)) fun (i x : Nat) => AV.str (bs (List.getD (wordsR s) i []))) []))))))
    (by kernel_rfl) ?_
  refine k_loop (fun _ hs => hs.le (by repeat' (first | exact trivial | (first | exact Ent.refl _ | exact inc_ent (by omega) | exact Ent.nil rfl | exact Ent.of_eq (congrArg (AV.osl _ _ _) (by first | omega | (dsimp only; omega))) | exact Ent.of_eq (congrArg (AV.int _) (by first | omega | (dsimp only; omega)))) | refine And.intro ?_ ?_)) (by repeat' (first | exact trivial | (first | exact ObEnt.refl _ | exact ObEnt.junk | exact ObEnt.zero | exact ObEnt.push rfl rfl | exact ObEnt.pushRow rfl | exact ObEnt.len (by omega) | exact ObEnt.row (by repeat' (first | exact trivial | (first | exact Ent.refl _ | exact inc_ent (by omega) | exact Ent.nil rfl | exact Ent.of_eq (congrArg (AV.osl _ _ _) (by first | omega | (dsimp only; omega))) | exact Ent.of_eq (congrArg (AV.int _) (by first | omega | (dsimp only; omega)))) | refine And.intro ?_ ?_))) | refine And.intro ?_ ?_))) (fun x0 => ?_)
  try (have q0 := x0.2; dsimp only at q0)
  have q := x0.2; obtain ⟨q1, q2, q3, _⟩ := q; have e1 := wI (n := (x0.1.1 : Int) + 1) (by omega) (by omega)
  refine k_req (fun hr => by have hr := (cnd_eqt_t cnd_dec_t) hr; first | omega | (simp only [Int.toNat_natCast] at *; omega)) ?_
  refine k_br (fun h2 => ?_) (fun h2 => ?_)
  · have g2 := (cnd_and_t cnd_dec_t cnd_bne_t) h2
    try simp only [Int.toNat_natCast] at g2
    refine k_req (by first | omega | (simp only [Int.toNat_natCast]; omega)) ?_
    refine k_req (fun hr => by have hr := (cnd_eqt_t cnd_bne_t) hr; first | omega | (simp only [Int.toNat_natCast] at *; omega)) ?_
    refine k_br (fun h5 => ?_) (fun h5 => ?_)
    · have g5 := (cnd_and_t cnd_bne_t cnd_bne_t) h5
      try simp only [Int.toNat_natCast] at g5
      refine k_req (by first | omega | (simp only [Int.toNat_natCast]; omega)) ?_
      refine k_req (by rw [wext (by omega) hq, bs_size, bs_size, List.length_singleton]; omega) ?_
      exact k_again (⟨_, wop_in x0.2 (by omega) g2.2 g5.1 g5.2⟩) (fun _ hs => hs.le (by repeat' (first | exact trivial | exact Ent.refl _ | exact Ent.of_eq (congrArg AV.str (wnow (by omega) hq)) | exact Ent.of_eq (congrArg (AV.int _) (by first | omega | (dsimp only; omega))) | refine And.intro ?_ ?_)) (by repeat' (first | exact trivial | (first | exact ObEnt.refl _ | exact ObEnt.junk | exact ObEnt.zero | exact ObEnt.push rfl rfl | exact ObEnt.pushRow rfl | exact ObEnt.len (by omega) | exact ObEnt.row (by repeat' (first | exact trivial | (first | exact Ent.refl _ | exact inc_ent (by omega) | exact Ent.nil rfl | exact Ent.of_eq (congrArg (AV.osl _ _ _) (by first | omega | (dsimp only; omega))) | exact Ent.of_eq (congrArg (AV.int _) (by first | omega | (dsimp only; omega)))) | refine And.intro ?_ ?_))) | refine And.intro ?_ ?_))) (by first | omega | (dsimp only; omega) | (simp; omega))
    · have g5 := (cnd_and_f cnd_bne_f cnd_bne_f) h5
      try simp only [Int.toNat_natCast] at g5
      refine k_br (fun h9 => ?_) (fun h9 => ?_)
      · have g9 := (cnd_not_t cnd_id_f) h9
        refine k_req (by first | omega | (simp only [Int.toNat_natCast]; omega)) ?_
        exact k_again (⟨_, wop_w x0.2 (by omega) g2.2 g5 (neF g9)⟩) (fun _ hs => hs.le (by repeat' (first | exact trivial | exact Ent.refl _ | exact Ent.of_eq (congrArg (AV.osl _ _ _) (by simp)) | exact Ent.of_eq (congrArg (AV.int _) (by first | omega | (dsimp only; omega))) | refine And.intro ?_ ?_)) (⟨.pushA rowS [] rfl rfl, trivial⟩)) (by first | omega | (dsimp only; omega) | (simp; omega))
      · have g9 := (cnd_not_f cnd_id_t) h9
        exact k_again (⟨_, wop_n x0.2 (by omega) g2.2 g5 (neT g9)⟩) (fun _ hs => hs.le (by repeat' (first | exact trivial | (first | exact Ent.refl _ | exact inc_ent (by omega) | exact Ent.nil rfl | exact Ent.of_eq (congrArg (AV.osl _ _ _) (by first | omega | (dsimp only; omega))) | exact Ent.of_eq (congrArg (AV.int _) (by first | omega | (dsimp only; omega)))) | refine And.intro ?_ ?_)) (by repeat' (first | exact trivial | (first | exact ObEnt.refl _ | exact ObEnt.junk | exact ObEnt.zero | exact ObEnt.push rfl rfl | exact ObEnt.pushRow rfl | exact ObEnt.len (by omega) | exact ObEnt.row (by repeat' (first | exact trivial | (first | exact Ent.refl _ | exact inc_ent (by omega) | exact Ent.nil rfl | exact Ent.of_eq (congrArg (AV.osl _ _ _) (by first | omega | (dsimp only; omega))) | exact Ent.of_eq (congrArg (AV.int _) (by first | omega | (dsimp only; omega)))) | refine And.intro ?_ ?_))) | refine And.intro ?_ ?_))) (by first | omega | (dsimp only; omega) | (simp; omega))
  · have g2 := (cnd_and_f cnd_dec_f cnd_bne_f) h2
    try simp only [Int.toNat_natCast] at g2
    refine k_br (fun h13 => ?_) (fun h13 => ?_)
    · have g13 := (cnd_not_t cnd_id_f) h13
      refine k_req (by first | omega | (simp only [Int.toNat_natCast]; omega)) ?_
      exact k_out ((by rw [wop_end x0.2 g2, if_neg (neF g13)]; exact strOut2 rfl rfl))
    · have g13 := (cnd_not_f cnd_id_t) h13
      exact k_out ((by rw [wop_end x0.2 g2, if_pos (neT g13), List.append_nil]; exact strOut1 _))

theorem lines_c (m : GP) (s : Str) (hq : s.length < 4294967281) : Pure Tryd.prog (gl0 m) 42 [.str (bs s)] (.isl 1 (spl 10 s).length fun i _ => .str (bs ((spl 10 s).getD i []))) := by
  have zs := bs_size s
  refine pure_sk (own := ow0) Tryd.func42 (by kernel_rfl) mixed (by kernel_rfl)
    (.loop ({ x : Nat × Nat × List Str // (fun (x : Nat × Nat × List Str) => LnP s x) x }) (fun (x : { x : Nat × Nat × List Str // (fun (x : Nat × Nat × List Str) => LnP s x) x }) => mkSt [0, 3, 4, 5] [AV.str (bs s), AV.osl (0 : Nat) (1 : Nat) (0 : Nat) (List.length (Prod.snd (Prod.snd (x.1)))), Zi (↑(Prod.fst (Prod.snd (x.1))) : Int), Zi (↑(Prod.fst (x.1)) : Int)] [some { es := (1 : Nat), n := List.length (Prod.snd (Prod.snd (x.1))), mu := true, f := Rep.row fun (i : Nat) => rowS (List.getD (Prod.snd (Prod.snd (x.1))) i []) }]) (fun (x : { x : Nat × Nat × List Str // (fun (x : Nat × Nat × List Str) => LnP s x) x }) => (fun (x : Nat × Nat × List Str) => List.length s - Prod.fst x) (x.1)) (⟨((0 : Nat), (0 : Nat), []), ⟨Nat.zero_le (List.length s), ⟨Nat.zero_le (Prod.fst ((0 : Nat), (0 : Nat), [])), ⟨Nat.zero_le (Prod.fst ((0 : Nat), (0 : Nat), [])), Eq.symm (preH_nil (spl_ne (10 : UInt8) s))⟩⟩⟩⟩) ([0, 3, 4, 5]) ([288]) ([AV.str (bs s), AV.nsl, Zi 0, Zi 0]) ([some { es := 1, n := 0, mu := true, f := Rep.lst [] }]) (fun x0 => (.br (decide ((↑(x0.1).1 : Int) < (↑(ByteArray.size (bs s)) : Int))) (.req ((0 : Int) ≤ (↑(x0.1).1 : Int) ∧ (↑(x0.1).1 : Int) < (↑(ByteArray.size (bs s)) : Int)) (.br ((↑(UInt8.toNat (List.getD (Array.toList (ByteArray.data (bs s))) (Int.toNat (↑(x0.1).1 : Int)) (0 : UInt8))) : Int) == (10 : Int)) (.req ((0 : Int) ≤ (↑(Prod.snd (x0.1)).1 : Int) ∧ (↑(Prod.snd (x0.1)).1 : Int) ≤ (↑(x0.1).1 : Int) ∧ (↑(x0.1).1 : Int) ≤ (↑(ByteArray.size (bs s)) : Int)) (.req ((List.length (Prod.snd (Prod.snd (x0.1))) + 1) * 16 ≤ 140737488355328) (.again (Again (0) (fun (x : { x : Nat × Nat × List Str // (fun (x : Nat × Nat × List Str) => LnP s x) x }) => mkSt [0, 3, 4, 5] [AV.str (bs s), AV.osl (0 : Nat) (1 : Nat) (0 : Nat) (List.length (Prod.snd (Prod.snd (x.1)))), Zi (↑(Prod.fst (Prod.snd (x.1))) : Int), Zi (↑(Prod.fst (x.1)) : Int)] [some { es := (1 : Nat), n := List.length (Prod.snd (Prod.snd (x.1))), mu := true, f := Rep.row fun (i : Nat) => rowS (List.getD (Prod.snd (Prod.snd (x.1))) i []) }]) (fun (x : { x : Nat × Nat × List Str // (fun (x : Nat × Nat × List Str) => LnP s x) x }) => (fun (x : Nat × Nat × List Str) => List.length s - Prod.fst x) (x.1)) x0) ([0, 3, 4, 5]) ([113]) ([AV.str (bs s), AV.osl (0) (1) (0) (List.length (Prod.snd (Prod.snd (x0.1))) + 1), Zi (IntKind.wrap IntKind.i64 ((↑(x0.1).1 : Int) + (1 : Int))), Zi (IntKind.wrap IntKind.i64 ((↑(x0.1).1 : Int) + (1 : Int)))]) ([some { es := 1, n := List.length (Prod.snd (Prod.snd (x0.1))) + 1, mu := true, f := Rep.cat (List.length (Prod.snd (Prod.snd (x0.1)))) (Rep.row fun (i : Nat) => [AV.str (bs (List.getD (Prod.snd (Prod.snd (x0.1))) i []))]) (Rep.lst [[AV.str (ByteArray.extract (bs s) (Int.toNat (↑(Prod.snd (x0.1)).1 : Int)) (Int.toNat (↑(Prod.snd (x0.1)).1 : Int) + (Int.toNat (↑(x0.1).1 : Int) - Int.toNat (↑(Prod.snd (x0.1)).1 : Int))))]]) }])))) (.again (Again (0) (fun (x : { x : Nat × Nat × List Str // (fun (x : Nat × Nat × List Str) => LnP s x) x }) => mkSt [0, 3, 4, 5] [AV.str (bs s), AV.osl (0 : Nat) (1 : Nat) (0 : Nat) (List.length (Prod.snd (Prod.snd (x.1)))), Zi (↑(Prod.fst (Prod.snd (x.1))) : Int), Zi (↑(Prod.fst (x.1)) : Int)] [some { es := (1 : Nat), n := List.length (Prod.snd (Prod.snd (x.1))), mu := true, f := Rep.row fun (i : Nat) => rowS (List.getD (Prod.snd (Prod.snd (x.1))) i []) }]) (fun (x : { x : Nat × Nat × List Str // (fun (x : Nat × Nat × List Str) => LnP s x) x }) => (fun (x : Nat × Nat × List Str) => List.length s - Prod.fst x) (x.1)) x0) ([0, 3, 4, 5]) ([0]) ([AV.str (bs s), AV.osl (0) (1) (0) (List.length (Prod.snd (Prod.snd (x0.1)))), Zi (↑(Prod.snd (x0.1)).1 : Int), Zi (IntKind.wrap IntKind.i64 ((↑(x0.1).1 : Int) + (1 : Int)))]) ([some { es := 1, n := List.length (Prod.snd (Prod.snd (x0.1))), mu := true, f := Rep.row fun (i : Nat) => [AV.str (bs (List.getD (Prod.snd (Prod.snd (x0.1))) i []))] }])))) (.req ((0 : Int) ≤ (↑(Prod.snd (x0.1)).1 : Int) ∧ (↑(Prod.snd (x0.1)).1 : Int) ≤ (↑(ByteArray.size (bs s)) : Int)) (.req ((List.length (Prod.snd (Prod.snd (x0.1))) + 1) * 16 ≤ 140737488355328) (.out (AV.isl (1) (List.length (Prod.snd (Prod.snd (x0.1))) + 1) fun (r k : Nat) => mixA (Nat.blt (r + 0) (List.length (Prod.snd (Prod.snd (x0.1))))) (atL [AV.str (bs (List.getD (Prod.snd (Prod.snd (x0.1))) (r + 0) []))] k) (atL (List.getD [[AV.str (ByteArray.extract (bs s) (Int.toNat (↑(Prod.snd (x0.1)).1 : Int)) (Int.toNat (↑(Prod.snd (x0.1)).1 : Int) + (ByteArray.size (bs s) - Int.toNat (↑(Prod.snd (x0.1)).1 : Int))))]] (r + 0 - List.length (Prod.snd (Prod.snd (x0.1)))) []) k)) [] (AV.isl (1 : Nat) (List.length (spl (10 : UInt8) s)) fun (i x : Nat) => AV.str (bs (List.getD (spl (10 : UInt8) s) i []))) []))))))
    (by kernel_rfl) ?_
  refine k_loop (fun _ hs => hs.le (by repeat' (first | exact trivial | (first | exact Ent.refl _ | exact inc_ent (by omega) | exact Ent.nil rfl | exact Ent.of_eq (congrArg (AV.osl _ _ _) (by first | omega | (dsimp only; omega))) | exact Ent.of_eq (congrArg (AV.int _) (by first | omega | (dsimp only; omega)))) | refine And.intro ?_ ?_)) (by repeat' (first | exact trivial | (first | exact ObEnt.refl _ | exact ObEnt.junk | exact ObEnt.zero | exact ObEnt.push rfl rfl | exact ObEnt.pushRow rfl | exact ObEnt.len (by omega) | exact ObEnt.row (by repeat' (first | exact trivial | (first | exact Ent.refl _ | exact inc_ent (by omega) | exact Ent.nil rfl | exact Ent.of_eq (congrArg (AV.osl _ _ _) (by first | omega | (dsimp only; omega))) | exact Ent.of_eq (congrArg (AV.int _) (by first | omega | (dsimp only; omega)))) | refine And.intro ?_ ?_))) | refine And.intro ?_ ?_))) (fun x0 => ?_)
  try (have q0 := x0.2; dsimp only at q0)
  have q := x0.2; obtain ⟨q1, q2, q3, _⟩ := q; have e1 := wI (n := (x0.1.1 : Int) + 1) (by omega) (by omega)
  refine k_br (fun h1 => ?_) (fun h1 => ?_)
  · have g1 := cnd_dec_t h1
    refine k_req (by first | omega | (simp only [Int.toNat_natCast]; omega)) ?_
    refine k_br (fun h3 => ?_) (fun h3 => ?_)
    · have g3 := cnd_beq_t h3
      try simp only [Int.toNat_natCast] at g3
      refine k_req (by first | omega | (simp only [Int.toNat_natCast]; omega)) ?_
      refine k_req (by first | omega | (simp only [Int.toNat_natCast]; omega)) ?_
      exact k_again (⟨_, lnp_eq x0.2 (by omega) g3⟩) (fun _ hs => hs.le (by repeat' (first | exact trivial | exact Ent.refl _ | exact Ent.of_eq (congrArg (AV.osl _ _ _) (by simp)) | exact Ent.of_eq (congrArg (AV.int _) (by first | omega | (dsimp only; omega))) | refine And.intro ?_ ?_)) (⟨.pushA rowS [] (congrArg (fun z => [AV.str z]) (lnx s _ _)) rfl, trivial⟩)) (by first | omega | (dsimp only; omega) | (simp; omega))
    · have g3 := cnd_beq_f h3
      try simp only [Int.toNat_natCast] at g3
      exact k_again (⟨_, lnp_ne x0.2 (by omega) g3⟩) (fun _ hs => hs.le (by repeat' (first | exact trivial | (first | exact Ent.refl _ | exact inc_ent (by omega) | exact Ent.nil rfl | exact Ent.of_eq (congrArg (AV.osl _ _ _) (by first | omega | (dsimp only; omega))) | exact Ent.of_eq (congrArg (AV.int _) (by first | omega | (dsimp only; omega)))) | refine And.intro ?_ ?_)) (by repeat' (first | exact trivial | (first | exact ObEnt.refl _ | exact ObEnt.junk | exact ObEnt.zero | exact ObEnt.push rfl rfl | exact ObEnt.pushRow rfl | exact ObEnt.len (by omega) | exact ObEnt.row (by repeat' (first | exact trivial | (first | exact Ent.refl _ | exact inc_ent (by omega) | exact Ent.nil rfl | exact Ent.of_eq (congrArg (AV.osl _ _ _) (by first | omega | (dsimp only; omega))) | exact Ent.of_eq (congrArg (AV.int _) (by first | omega | (dsimp only; omega)))) | refine And.intro ?_ ?_))) | refine And.intro ?_ ?_))) (by first | omega | (dsimp only; omega) | (simp; omega))
  · have g1 := cnd_dec_f h1
    refine k_req (by first | omega | (simp only [Int.toNat_natCast]; omega)) ?_
    refine k_req (by first | omega | (simp only [Int.toNat_natCast]; omega)) ?_
    exact k_out ((by rw [lnp_end x0.2 (by omega)]; exact strOut2 (lnx s _ _) rfl))

theorem rnum_c (m : GP) (s : Str) (hq : s.length < 4294967281) : Pure Tryd.prog (gl0 m) 50 [.str (bs s)] (.tup [.int .i64 (rnV s), .bool (numOk s)]) := by
  have zs := bs_size s
  refine pure_sk (own := ow0) Tryd.func50 (by kernel_rfl) mixed (by kernel_rfl)
    (.req ((((↑(ByteArray.size (bs s)) : Int) == (0 : Int) || decide ((↑(ByteArray.size (bs s)) : Int) > (13 : Int))) == false) = true → (0 : Int) ≤ (0 : Int) ∧ (0 : Int) < (↑(ByteArray.size (bs s)) : Int)) (.br ((↑(ByteArray.size (bs s)) : Int) == (0 : Int) || decide ((↑(ByteArray.size (bs s)) : Int) > (13 : Int)) || (↑(UInt8.toNat (List.getD (Array.toList (ByteArray.data (bs s))) (0) (0 : UInt8))) : Int) == (48 : Int) && decide ((↑(ByteArray.size (bs s)) : Int) > (1 : Int))) (.out (AV.tup [Zi 0, AV.bool false]) [] (AV.tup [Zi (rnV s), AV.bool (numOk s)]) []) (.loop ({ x : Nat // x ≤ List.length s ∧ (fun (x : Nat) => ∀ (b : UInt8), b ∈ List.take x s → dgB b = true) x }) (fun (x : { x : Nat // x ≤ List.length s ∧ (fun (x : Nat) => ∀ (b : UInt8), b ∈ List.take x s → dgB b = true) x }) => mkSt [0, 4, 5] [AV.str (bs s), Zi (↑(decV (List.take (x.1) s)) : Int), Zi (↑(x.1) : Int)] []) (fun (x : { x : Nat // x ≤ List.length s ∧ (fun (x : Nat) => ∀ (b : UInt8), b ∈ List.take x s → dgB b = true) x }) => List.length s - x.1) (⟨(0 : Nat), ⟨Nat.zero_le (List.length s), fun (b : UInt8) (hb : b ∈ List.take (0 : Nat) s) => List.Mem.casesOn (motive := fun (a : List UInt8) (t : List.Mem b a) => List.take (0 : Nat) s = a → hb ≍ t → dgB b = true) hb (fun («as» : List UInt8) (h : List.take (0 : Nat) s = b :: «as») => False.elim (noConfusion_of_Nat List.ctorIdx h)) (fun (b_1 : UInt8) {«as» : List UInt8} (a : List.Mem b «as») (h : List.take (0 : Nat) s = b_1 :: «as») => False.elim (noConfusion_of_Nat List.ctorIdx h)) (Eq.refl (List.take (0 : Nat) s)) (HEq.refl hb)⟩⟩) ([0, 4, 5]) ([]) ([AV.str (bs s), Zi 0, Zi 0]) ([]) (fun x3 => (.br (decide ((↑x3.1 : Int) < (↑(ByteArray.size (bs s)) : Int))) (.req ((0 : Int) ≤ (↑x3.1 : Int) ∧ (↑x3.1 : Int) < (↑(ByteArray.size (bs s)) : Int)) (.req ((decide ((↑(UInt8.toNat (List.getD (Array.toList (ByteArray.data (bs s))) (Int.toNat (↑x3.1 : Int)) (0 : UInt8))) : Int) < (48 : Int)) == false) = true → (0 : Int) ≤ (↑x3.1 : Int) ∧ (↑x3.1 : Int) < (↑(ByteArray.size (bs s)) : Int)) (.br (decide ((↑(UInt8.toNat (List.getD (Array.toList (ByteArray.data (bs s))) (Int.toNat (↑x3.1 : Int)) (0 : UInt8))) : Int) < (48 : Int)) || decide ((↑(UInt8.toNat (List.getD (Array.toList (ByteArray.data (bs s))) (Int.toNat (↑x3.1 : Int)) (0 : UInt8))) : Int) > (57 : Int))) (.out (AV.tup [Zi 0, AV.bool false]) [] (AV.tup [Zi (rnV s), AV.bool (numOk s)]) []) (.req ((0 : Int) ≤ (↑x3.1 : Int) ∧ (↑x3.1 : Int) < (↑(ByteArray.size (bs s)) : Int)) (.again (Again (0) (fun (x : { x : Nat // x ≤ List.length s ∧ (fun (x : Nat) => ∀ (b : UInt8), b ∈ List.take x s → dgB b = true) x }) => mkSt [0, 4, 5] [AV.str (bs s), Zi (↑(decV (List.take (x.1) s)) : Int), Zi (↑(x.1) : Int)] []) (fun (x : { x : Nat // x ≤ List.length s ∧ (fun (x : Nat) => ∀ (b : UInt8), b ∈ List.take x s → dgB b = true) x }) => List.length s - x.1) x3) ([0, 4, 5]) ([]) ([AV.str (bs s), Zi (IntKind.wrap IntKind.i64 (IntKind.wrap IntKind.i64 ((10 : Int) * (↑(decV (List.take x3.1 s)) : Int)) + IntKind.wrap IntKind.i64 (IntKind.wrap IntKind.u8 ((↑(UInt8.toNat (List.getD (Array.toList (ByteArray.data (bs s))) (Int.toNat (↑x3.1 : Int)) (0 : UInt8))) : Int) - (48 : Int))))), Zi (IntKind.wrap IntKind.i64 ((↑x3.1 : Int) + (1 : Int)))]) ([])))))) (.out (AV.tup [Zi (↑(decV (List.take x3.1 s)) : Int), AV.bool (decide ((↑(decV (List.take x3.1 s)) : Int) ≤ (1099511627776 : Int)))]) [] (AV.tup [Zi (rnV s), AV.bool (numOk s)]) []))))))
    (by kernel_rfl) ?_
  refine k_req (fun hr => by have hr := (cnd_eqf_t (cnd_or_f cnd_beq_f cnd_dec_f)) hr; first | omega | (simp only [Int.toNat_natCast] at *; omega)) ?_
  refine k_br (fun h1 => ?_) (fun h1 => ?_)
  · have g1 := (cnd_or_t (cnd_or_t cnd_beq_t cnd_dec_t) (cnd_and_t cnd_beq_t cnd_dec_t)) h1
    exact k_out ((by rw [(rn_no1 g1).1, (rn_no1 g1).2]; exact Ent.refl _))
  · have g1 := (cnd_or_f (cnd_or_f cnd_beq_f cnd_dec_f) (cnd_and_f cnd_beq_f cnd_dec_f)) h1
    refine k_loop (fun _ hs => hs.le (by repeat' (first | exact trivial | exact Ent.refl _ | exact Ent.of_eq (congrArg (AV.int _) (by first | omega | (dsimp only; omega) | exact rn_step (by omega) (by omega) x3.2.2 g7)) | refine And.intro ?_ ?_)) (trivial)) (fun x3 => ?_)
    try (have q3 := x3.2; dsimp only at q3)
    have e1 := wI (n := (x3.1 : Int) + 1) (by omega) (by omega)
    refine k_br (fun h4 => ?_) (fun h4 => ?_)
    · have g4 := cnd_dec_t h4
      refine k_req (by first | omega | (simp only [Int.toNat_natCast]; omega)) ?_
      refine k_req (fun hr => by have hr := (cnd_eqf_t cnd_dec_f) hr; first | omega | (simp only [Int.toNat_natCast] at *; omega)) ?_
      refine k_br (fun h7 => ?_) (fun h7 => ?_)
      · have g7 := (cnd_or_t cnd_dec_t cnd_dec_t) h7
        try simp only [Int.toNat_natCast] at g7
        exact k_out ((by rw [(rn_no2 g4 g7).1, (rn_no2 g4 g7).2]; exact Ent.refl _))
      · have g7 := (cnd_or_f cnd_dec_f cnd_dec_f) h7
        try simp only [Int.toNat_natCast] at g7
        refine k_req (by first | omega | (simp only [Int.toNat_natCast]; omega)) ?_
        exact k_again (⟨x3.1 + 1, by omega, rn_dig (by omega) x3.2.2 g7⟩) (fun _ hs => hs.le (by repeat' (first | exact trivial | exact Ent.refl _ | exact Ent.of_eq (congrArg (AV.int _) (by first | omega | (dsimp only; omega) | exact rn_step (by omega) (by omega) x3.2.2 g7)) | refine And.intro ?_ ?_)) (trivial)) (by first | omega | (dsimp only; omega) | (simp; omega))
    · have g4 := cnd_dec_f h4
      exact k_out ((by rw [(rn_yes g1 (x := x3.1) (by omega) x3.2.2).1, (rn_yes g1 (x := x3.1) (by omega) x3.2.2).2]; exact Ent.refl _))

theorem numsE {os : List (Option Ob)} {a : Cmd} {l : List Int} (h : numsK a = l) : Ent os (.isl 1 l.length fun r k => atL ((l.map fun n => [Zi n]).getD (r + 0) []) k) (.isl 1 (numsK a).length fun i _ => .int .i64 ((numsK a).getD i 0)) := by
  subst h
  refine Ent.isl fun i j hi hj => ?_
  obtain rfl : j = 0 := Nat.lt_one_iff.1 hj
  rw [Nat.add_zero, List.getD_eq_getElem?_getD, List.getElem?_map, List.getD_eq_getElem?_getD, List.getElem?_eq_getElem hi]; rfl
theorem numsO {os : List (Option Ob)} {a : Cmd} (h : numsK a = []) : Ent os .nsl (.isl 1 (numsK a).length fun i _ => .int .i64 ((numsK a).getD i 0)) := by
  rw [h]; exact Ent.nsl
theorem numbers_c (m : GP) (a : Cmd) : Pure Tryd.prog (gl0 m) 37 [.agg a.cells] (.isl 1 (numsK a).length fun i _ => .int .i64 ((numsK a).getD i 0)) := by
  refine pure_sk (own := ow0) Tryd.func37 (by kernel_rfl) mixed (by kernel_rfl)
    (.br (a.1 == (1 : Int)) (.out (AV.isl (1) (2) fun (r k : Nat) => atL (List.getD [[Zi a.2], [Zi a.4]] (r + 0) []) k) [] (AV.isl (1 : Nat) (List.length (numsK a)) fun (i x : Nat) => Zi (List.getD (numsK a) i (0 : Int))) []) (.br (a.1 == (2 : Int)) (.br (a.1 == (2 : Int)) (.out (AV.isl (1) (3) fun (r k : Nat) => atL (List.getD [[Zi a.2], [Zi a.3], [Zi a.4]] (r + 0) []) k) [] (AV.isl (1 : Nat) (List.length (numsK a)) fun (i x : Nat) => Zi (List.getD (numsK a) i (0 : Int))) []) (.br (a.1 == (4 : Int)) (.br (a.1 == (4 : Int)) (.out (AV.isl (1) (1) fun (r k : Nat) => atL (List.getD [[Zi a.2]] (r + 0) []) k) [] (AV.isl (1 : Nat) (List.length (numsK a)) fun (i x : Nat) => Zi (List.getD (numsK a) i (0 : Int))) []) (.br (a.1 == (8 : Int)) (.out (AV.isl (1) (1) fun (r k : Nat) => atL (List.getD [[Zi a.4]] (r + 0) []) k) [] (AV.isl (1 : Nat) (List.length (numsK a)) fun (i x : Nat) => Zi (List.getD (numsK a) i (0 : Int))) []) (.out (AV.nsl) [] (AV.isl (1 : Nat) (List.length (numsK a)) fun (i x : Nat) => Zi (List.getD (numsK a) i (0 : Int))) []))) (.br (a.1 == (6 : Int)) (.out (AV.isl (1) (1) fun (r k : Nat) => atL (List.getD [[Zi a.2]] (r + 0) []) k) [] (AV.isl (1 : Nat) (List.length (numsK a)) fun (i x : Nat) => Zi (List.getD (numsK a) i (0 : Int))) []) (.br (a.1 == (8 : Int)) (.out (AV.isl (1) (1) fun (r k : Nat) => atL (List.getD [[Zi a.4]] (r + 0) []) k) [] (AV.isl (1 : Nat) (List.length (numsK a)) fun (i x : Nat) => Zi (List.getD (numsK a) i (0 : Int))) []) (.out (AV.nsl) [] (AV.isl (1 : Nat) (List.length (numsK a)) fun (i x : Nat) => Zi (List.getD (numsK a) i (0 : Int))) []))))) (.br (a.1 == (3 : Int)) (.br (a.1 == (3 : Int)) (.out (AV.isl (1) (3) fun (r k : Nat) => atL (List.getD [[Zi a.2], [Zi a.3], [Zi a.4]] (r + 0) []) k) [] (AV.isl (1 : Nat) (List.length (numsK a)) fun (i x : Nat) => Zi (List.getD (numsK a) i (0 : Int))) []) (.br (a.1 == (4 : Int)) (.br (a.1 == (4 : Int)) (.out (AV.isl (1) (1) fun (r k : Nat) => atL (List.getD [[Zi a.2]] (r + 0) []) k) [] (AV.isl (1 : Nat) (List.length (numsK a)) fun (i x : Nat) => Zi (List.getD (numsK a) i (0 : Int))) []) (.br (a.1 == (8 : Int)) (.out (AV.isl (1) (1) fun (r k : Nat) => atL (List.getD [[Zi a.4]] (r + 0) []) k) [] (AV.isl (1 : Nat) (List.length (numsK a)) fun (i x : Nat) => Zi (List.getD (numsK a) i (0 : Int))) []) (.out (AV.nsl) [] (AV.isl (1 : Nat) (List.length (numsK a)) fun (i x : Nat) => Zi (List.getD (numsK a) i (0 : Int))) []))) (.br (a.1 == (6 : Int)) (.out (AV.isl (1) (1) fun (r k : Nat) => atL (List.getD [[Zi a.2]] (r + 0) []) k) [] (AV.isl (1 : Nat) (List.length (numsK a)) fun (i x : Nat) => Zi (List.getD (numsK a) i (0 : Int))) []) (.br (a.1 == (8 : Int)) (.out (AV.isl (1) (1) fun (r k : Nat) => atL (List.getD [[Zi a.4]] (r + 0) []) k) [] (AV.isl (1 : Nat) (List.length (numsK a)) fun (i x : Nat) => Zi (List.getD (numsK a) i (0 : Int))) []) (.out (AV.nsl) [] (AV.isl (1 : Nat) (List.length (numsK a)) fun (i x : Nat) => Zi (List.getD (numsK a) i (0 : Int))) []))))) (.br (a.1 == (5 : Int)) (.out (AV.isl (1) (3) fun (r k : Nat) => atL (List.getD [[Zi a.2], [Zi a.3], [Zi a.4]] (r + 0) []) k) [] (AV.isl (1 : Nat) (List.length (numsK a)) fun (i x : Nat) => Zi (List.getD (numsK a) i (0 : Int))) []) (.br (a.1 == (4 : Int)) (.br (a.1 == (4 : Int)) (.out (AV.isl (1) (1) fun (r k : Nat) => atL (List.getD [[Zi a.2]] (r + 0) []) k) [] (AV.isl (1 : Nat) (List.length (numsK a)) fun (i x : Nat) => Zi (List.getD (numsK a) i (0 : Int))) []) (.br (a.1 == (8 : Int)) (.out (AV.isl (1) (1) fun (r k : Nat) => atL (List.getD [[Zi a.4]] (r + 0) []) k) [] (AV.isl (1 : Nat) (List.length (numsK a)) fun (i x : Nat) => Zi (List.getD (numsK a) i (0 : Int))) []) (.out (AV.nsl) [] (AV.isl (1 : Nat) (List.length (numsK a)) fun (i x : Nat) => Zi (List.getD (numsK a) i (0 : Int))) []))) (.br (a.1 == (6 : Int)) (.out (AV.isl (1) (1) fun (r k : Nat) => atL (List.getD [[Zi a.2]] (r + 0) []) k) [] (AV.isl (1 : Nat) (List.length (numsK a)) fun (i x : Nat) => Zi (List.getD (numsK a) i (0 : Int))) []) (.br (a.1 == (8 : Int)) (.out (AV.isl (1) (1) fun (r k : Nat) => atL (List.getD [[Zi a.4]] (r + 0) []) k) [] (AV.isl (1 : Nat) (List.length (numsK a)) fun (i x : Nat) => Zi (List.getD (numsK a) i (0 : Int))) []) (.out (AV.nsl) [] (AV.isl (1 : Nat) (List.length (numsK a)) fun (i x : Nat) => Zi (List.getD (numsK a) i (0 : Int))) []))))))))
    (by kernel_rfl) ?_
  refine k_br (fun h0 => ?_) (fun h0 => ?_)
  · have g0 := cnd_beq_t h0
    exact k_out ((by first | (exfalso; omega) | exact numsO (by simp [numsK, *]) | exact numsE (l := [a.who, a.amount]) (by simp [numsK, *]) | exact numsE (l := [a.who, a.whom, a.amount]) (by simp [numsK, *]) | exact numsE (l := [a.who]) (by simp [numsK, *]) | exact numsE (l := [a.amount]) (by simp [numsK, *])))
  · have g0 := cnd_beq_f h0
    refine k_br (fun h2 => ?_) (fun h2 => ?_)
    · have g2 := cnd_beq_t h2
      refine k_br (fun h3 => ?_) (fun h3 => ?_)
      · have g3 := cnd_beq_t h3
        exact k_out ((by first | (exfalso; omega) | exact numsO (by simp [numsK, *]) | exact numsE (l := [a.who, a.amount]) (by simp [numsK, *]) | exact numsE (l := [a.who, a.whom, a.amount]) (by simp [numsK, *]) | exact numsE (l := [a.who]) (by simp [numsK, *]) | exact numsE (l := [a.amount]) (by simp [numsK, *])))
      · have g3 := cnd_beq_f h3
        refine k_br (fun h5 => ?_) (fun h5 => ?_)
        · have g5 := cnd_beq_t h5
          refine k_br (fun h6 => ?_) (fun h6 => ?_)
          · have g6 := cnd_beq_t h6
            exact k_out ((by first | (exfalso; omega) | exact numsO (by simp [numsK, *]) | exact numsE (l := [a.who, a.amount]) (by simp [numsK, *]) | exact numsE (l := [a.who, a.whom, a.amount]) (by simp [numsK, *]) | exact numsE (l := [a.who]) (by simp [numsK, *]) | exact numsE (l := [a.amount]) (by simp [numsK, *])))
          · have g6 := cnd_beq_f h6
            refine k_br (fun h8 => ?_) (fun h8 => ?_)
            · have g8 := cnd_beq_t h8
              exact k_out ((by first | (exfalso; omega) | exact numsO (by simp [numsK, *]) | exact numsE (l := [a.who, a.amount]) (by simp [numsK, *]) | exact numsE (l := [a.who, a.whom, a.amount]) (by simp [numsK, *]) | exact numsE (l := [a.who]) (by simp [numsK, *]) | exact numsE (l := [a.amount]) (by simp [numsK, *])))
            · have g8 := cnd_beq_f h8
              exact k_out ((by first | (exfalso; omega) | exact numsO (by simp [numsK, *]) | exact numsE (l := [a.who, a.amount]) (by simp [numsK, *]) | exact numsE (l := [a.who, a.whom, a.amount]) (by simp [numsK, *]) | exact numsE (l := [a.who]) (by simp [numsK, *]) | exact numsE (l := [a.amount]) (by simp [numsK, *])))
        · have g5 := cnd_beq_f h5
          refine k_br (fun h11 => ?_) (fun h11 => ?_)
          · have g11 := cnd_beq_t h11
            exact k_out ((by first | (exfalso; omega) | exact numsO (by simp [numsK, *]) | exact numsE (l := [a.who, a.amount]) (by simp [numsK, *]) | exact numsE (l := [a.who, a.whom, a.amount]) (by simp [numsK, *]) | exact numsE (l := [a.who]) (by simp [numsK, *]) | exact numsE (l := [a.amount]) (by simp [numsK, *])))
          · have g11 := cnd_beq_f h11
            refine k_br (fun h13 => ?_) (fun h13 => ?_)
            · have g13 := cnd_beq_t h13
              exact k_out ((by first | (exfalso; omega) | exact numsO (by simp [numsK, *]) | exact numsE (l := [a.who, a.amount]) (by simp [numsK, *]) | exact numsE (l := [a.who, a.whom, a.amount]) (by simp [numsK, *]) | exact numsE (l := [a.who]) (by simp [numsK, *]) | exact numsE (l := [a.amount]) (by simp [numsK, *])))
            · have g13 := cnd_beq_f h13
              exact k_out ((by first | (exfalso; omega) | exact numsO (by simp [numsK, *]) | exact numsE (l := [a.who, a.amount]) (by simp [numsK, *]) | exact numsE (l := [a.who, a.whom, a.amount]) (by simp [numsK, *]) | exact numsE (l := [a.who]) (by simp [numsK, *]) | exact numsE (l := [a.amount]) (by simp [numsK, *])))
    · have g2 := cnd_beq_f h2
      refine k_br (fun h16 => ?_) (fun h16 => ?_)
      · have g16 := cnd_beq_t h16
        refine k_br (fun h17 => ?_) (fun h17 => ?_)
        · have g17 := cnd_beq_t h17
          exact k_out ((by first | (exfalso; omega) | exact numsO (by simp [numsK, *]) | exact numsE (l := [a.who, a.amount]) (by simp [numsK, *]) | exact numsE (l := [a.who, a.whom, a.amount]) (by simp [numsK, *]) | exact numsE (l := [a.who]) (by simp [numsK, *]) | exact numsE (l := [a.amount]) (by simp [numsK, *])))
        · have g17 := cnd_beq_f h17
          refine k_br (fun h19 => ?_) (fun h19 => ?_)
          · have g19 := cnd_beq_t h19
            refine k_br (fun h20 => ?_) (fun h20 => ?_)
            · have g20 := cnd_beq_t h20
              exact k_out ((by first | (exfalso; omega) | exact numsO (by simp [numsK, *]) | exact numsE (l := [a.who, a.amount]) (by simp [numsK, *]) | exact numsE (l := [a.who, a.whom, a.amount]) (by simp [numsK, *]) | exact numsE (l := [a.who]) (by simp [numsK, *]) | exact numsE (l := [a.amount]) (by simp [numsK, *])))
            · have g20 := cnd_beq_f h20
              refine k_br (fun h22 => ?_) (fun h22 => ?_)
              · have g22 := cnd_beq_t h22
                exact k_out ((by first | (exfalso; omega) | exact numsO (by simp [numsK, *]) | exact numsE (l := [a.who, a.amount]) (by simp [numsK, *]) | exact numsE (l := [a.who, a.whom, a.amount]) (by simp [numsK, *]) | exact numsE (l := [a.who]) (by simp [numsK, *]) | exact numsE (l := [a.amount]) (by simp [numsK, *])))
              · have g22 := cnd_beq_f h22
                exact k_out ((by first | (exfalso; omega) | exact numsO (by simp [numsK, *]) | exact numsE (l := [a.who, a.amount]) (by simp [numsK, *]) | exact numsE (l := [a.who, a.whom, a.amount]) (by simp [numsK, *]) | exact numsE (l := [a.who]) (by simp [numsK, *]) | exact numsE (l := [a.amount]) (by simp [numsK, *])))
          · have g19 := cnd_beq_f h19
            refine k_br (fun h25 => ?_) (fun h25 => ?_)
            · have g25 := cnd_beq_t h25
              exact k_out ((by first | (exfalso; omega) | exact numsO (by simp [numsK, *]) | exact numsE (l := [a.who, a.amount]) (by simp [numsK, *]) | exact numsE (l := [a.who, a.whom, a.amount]) (by simp [numsK, *]) | exact numsE (l := [a.who]) (by simp [numsK, *]) | exact numsE (l := [a.amount]) (by simp [numsK, *])))
            · have g25 := cnd_beq_f h25
              refine k_br (fun h27 => ?_) (fun h27 => ?_)
              · have g27 := cnd_beq_t h27
                exact k_out ((by first | (exfalso; omega) | exact numsO (by simp [numsK, *]) | exact numsE (l := [a.who, a.amount]) (by simp [numsK, *]) | exact numsE (l := [a.who, a.whom, a.amount]) (by simp [numsK, *]) | exact numsE (l := [a.who]) (by simp [numsK, *]) | exact numsE (l := [a.amount]) (by simp [numsK, *])))
              · have g27 := cnd_beq_f h27
                exact k_out ((by first | (exfalso; omega) | exact numsO (by simp [numsK, *]) | exact numsE (l := [a.who, a.amount]) (by simp [numsK, *]) | exact numsE (l := [a.who, a.whom, a.amount]) (by simp [numsK, *]) | exact numsE (l := [a.who]) (by simp [numsK, *]) | exact numsE (l := [a.amount]) (by simp [numsK, *])))
      · have g16 := cnd_beq_f h16
        refine k_br (fun h30 => ?_) (fun h30 => ?_)
        · have g30 := cnd_beq_t h30
          exact k_out ((by first | (exfalso; omega) | exact numsO (by simp [numsK, *]) | exact numsE (l := [a.who, a.amount]) (by simp [numsK, *]) | exact numsE (l := [a.who, a.whom, a.amount]) (by simp [numsK, *]) | exact numsE (l := [a.who]) (by simp [numsK, *]) | exact numsE (l := [a.amount]) (by simp [numsK, *])))
        · have g30 := cnd_beq_f h30
          refine k_br (fun h32 => ?_) (fun h32 => ?_)
          · have g32 := cnd_beq_t h32
            refine k_br (fun h33 => ?_) (fun h33 => ?_)
            · have g33 := cnd_beq_t h33
              exact k_out ((by first | (exfalso; omega) | exact numsO (by simp [numsK, *]) | exact numsE (l := [a.who, a.amount]) (by simp [numsK, *]) | exact numsE (l := [a.who, a.whom, a.amount]) (by simp [numsK, *]) | exact numsE (l := [a.who]) (by simp [numsK, *]) | exact numsE (l := [a.amount]) (by simp [numsK, *])))
            · have g33 := cnd_beq_f h33
              refine k_br (fun h35 => ?_) (fun h35 => ?_)
              · have g35 := cnd_beq_t h35
                exact k_out ((by first | (exfalso; omega) | exact numsO (by simp [numsK, *]) | exact numsE (l := [a.who, a.amount]) (by simp [numsK, *]) | exact numsE (l := [a.who, a.whom, a.amount]) (by simp [numsK, *]) | exact numsE (l := [a.who]) (by simp [numsK, *]) | exact numsE (l := [a.amount]) (by simp [numsK, *])))
              · have g35 := cnd_beq_f h35
                exact k_out ((by first | (exfalso; omega) | exact numsO (by simp [numsK, *]) | exact numsE (l := [a.who, a.amount]) (by simp [numsK, *]) | exact numsE (l := [a.who, a.whom, a.amount]) (by simp [numsK, *]) | exact numsE (l := [a.who]) (by simp [numsK, *]) | exact numsE (l := [a.amount]) (by simp [numsK, *])))
          · have g32 := cnd_beq_f h32
            refine k_br (fun h38 => ?_) (fun h38 => ?_)
            · have g38 := cnd_beq_t h38
              exact k_out ((by first | (exfalso; omega) | exact numsO (by simp [numsK, *]) | exact numsE (l := [a.who, a.amount]) (by simp [numsK, *]) | exact numsE (l := [a.who, a.whom, a.amount]) (by simp [numsK, *]) | exact numsE (l := [a.who]) (by simp [numsK, *]) | exact numsE (l := [a.amount]) (by simp [numsK, *])))
            · have g38 := cnd_beq_f h38
              refine k_br (fun h40 => ?_) (fun h40 => ?_)
              · have g40 := cnd_beq_t h40
                exact k_out ((by first | (exfalso; omega) | exact numsO (by simp [numsK, *]) | exact numsE (l := [a.who, a.amount]) (by simp [numsK, *]) | exact numsE (l := [a.who, a.whom, a.amount]) (by simp [numsK, *]) | exact numsE (l := [a.who]) (by simp [numsK, *]) | exact numsE (l := [a.amount]) (by simp [numsK, *])))
              · have g40 := cnd_beq_f h40
                exact k_out ((by first | (exfalso; omega) | exact numsO (by simp [numsK, *]) | exact numsE (l := [a.who, a.amount]) (by simp [numsK, *]) | exact numsE (l := [a.who, a.whom, a.amount]) (by simp [numsK, *]) | exact numsE (l := [a.who]) (by simp [numsK, *]) | exact numsE (l := [a.amount]) (by simp [numsK, *])))

theorem same_c (m : GP) (n k : Nat) (f g : Nat → Cmd) (hn : n < 9223372036854775807) : Pure Tryd.prog (gl0 m) 23 [.isl 5 n fun i j => atL (Cmd.cells (f i)) j, .isl 5 k fun i j => atL (Cmd.cells (g i)) j] (.bool (eqAs n k f g)) := by
  refine pure_sk (own := ow0) Tryd.func23 (by kernel_rfl) mixed (by kernel_rfl)
    (.br ((↑n : Int) != (↑k : Int)) (.out (AV.bool false) [] (AV.bool (eqAs n k f g)) []) (.loop ({ x : Nat // x ≤ n ∧ (fun (x : Nat) => ∀ (j : Nat), j < x → eqA (f j) (g j) = true) x }) (fun (x : { x : Nat // x ≤ n ∧ (fun (x : Nat) => ∀ (j : Nat), j < x → eqA (f j) (g j) = true) x }) => mkSt [0, 1, 5] [AV.isl (5) n fun (i j : Nat) => atL (Cmd.cells (f i)) j, AV.isl (5) k fun (i j : Nat) => atL (Cmd.cells (g i)) j, Zi (↑(x.1) : Int)] []) (fun (x : { x : Nat // x ≤ n ∧ (fun (x : Nat) => ∀ (j : Nat), j < x → eqA (f j) (g j) = true) x }) => n - x.1) (⟨(0 : Nat), ⟨Nat.zero_le n, fun (j : Nat) (hj : j < (0 : Nat)) => absurd hj (Nat.not_lt_zero j)⟩⟩) ([0, 1, 5]) ([]) ([AV.isl (5) n fun (i j : Nat) => atL (Cmd.cells (f i)) j, AV.isl (5) k fun (i j : Nat) => atL (Cmd.cells (g i)) j, Zi 0]) ([]) (fun x2 => (.br (decide ((↑x2.1 : Int) < (↑n : Int))) (.req ((0 : Int) ≤ (↑x2.1 : Int) ∧ (↑x2.1 : Int) < (↑n : Int)) (.req ((0 : Int) ≤ (↑x2.1 : Int) ∧ (↑x2.1 : Int) < (↑k : Int)) (.br (!((f (Int.toNat (↑(x2.1) : Int))).1 == (g (Int.toNat (↑(x2.1) : Int))).1 && ((f (Int.toNat (↑(x2.1) : Int))).2 == (g (Int.toNat (↑(x2.1) : Int))).2 && ((f (Int.toNat (↑(x2.1) : Int))).3 == (g (Int.toNat (↑(x2.1) : Int))).3 && ((f (Int.toNat (↑(x2.1) : Int))).4 == (g (Int.toNat (↑(x2.1) : Int))).4 && ((f (Int.toNat (↑(x2.1) : Int))).5 == (g (Int.toNat (↑(x2.1) : Int))).5 && true)))))) (.out (AV.bool false) [] (AV.bool (eqAs n k f g)) []) (.again (Again (0) (fun (x : { x : Nat // x ≤ n ∧ (fun (x : Nat) => ∀ (j : Nat), j < x → eqA (f j) (g j) = true) x }) => mkSt [0, 1, 5] [AV.isl (5) n fun (i j : Nat) => atL (Cmd.cells (f i)) j, AV.isl (5) k fun (i j : Nat) => atL (Cmd.cells (g i)) j, Zi (↑(x.1) : Int)] []) (fun (x : { x : Nat // x ≤ n ∧ (fun (x : Nat) => ∀ (j : Nat), j < x → eqA (f j) (g j) = true) x }) => n - x.1) x2) ([0, 1, 5]) ([]) ([AV.isl (5) n fun (i j : Nat) => atL (Cmd.cells (f i)) j, AV.isl (5) k fun (i j : Nat) => atL (Cmd.cells (g i)) j, Zi (IntKind.wrap IntKind.i64 ((↑x2.1 : Int) + (1 : Int)))]) ([]))))) (.out (AV.bool true) [] (AV.bool (eqAs n k f g)) [])))))
    (by kernel_rfl) ?_
  refine k_br (fun h0 => ?_) (fun h0 => ?_)
  · have g0 := cnd_bne_t h0
    exact k_out (Ent.of_eq (congrArg _ (eqs_n g0).symm))
  · have g0 := cnd_bne_f h0
    refine k_loop (fun _ hs => hs.le (by repeat' (first | exact trivial | (first | exact Ent.refl _ | exact inc_ent (by omega) | exact Ent.nil rfl | exact Ent.of_eq (congrArg (AV.osl _ _ _) (by first | omega | (dsimp only; omega))) | exact Ent.of_eq (congrArg (AV.int _) (by first | omega | (dsimp only; omega)))) | refine And.intro ?_ ?_)) (trivial)) (fun x2 => ?_)
    try (have q2 := x2.2; dsimp only at q2)
    have e1 := wI (n := (x2.1 : Int) + 1) (by omega) (by omega)
    refine k_br (fun h3 => ?_) (fun h3 => ?_)
    · have g3 := cnd_dec_t h3
      refine k_req (by simp only [Int.toNat_natCast]; omega) ?_
      refine k_req (by simp only [Int.toNat_natCast]; omega) ?_
      refine k_br (fun h6 => ?_) (fun h6 => ?_)
      · have g6 := (cnd_not_t (cnd_and_f cnd_beq_f (cnd_and_f cnd_beq_f (cnd_and_f cnd_beq_f (cnd_and_f cnd_beq_f (cnd_and_f cnd_id_f cnd_id_f)))))) h6
        try simp only [Int.toNat_natCast] at g6
        exact k_out (Ent.of_eq (congrArg _ (eqs_f (i := x2.1) (by omega) (by simp only [Int.toNat_natCast] at h6; exact (eqA_c _ _).symm.trans (by simpa only [Bool.not_eq_true'] using h6))).symm))
      · have g6 := (cnd_not_f (cnd_and_t cnd_beq_t (cnd_and_t cnd_beq_t (cnd_and_t cnd_beq_t (cnd_and_t cnd_beq_t (cnd_and_t cnd_id_t cnd_id_t)))))) h6
        try simp only [Int.toNat_natCast] at g6
        exact k_again (⟨x2.1 + 1, by omega, fun j hj => by rcases Nat.lt_succ_iff_lt_or_eq.1 hj with hj | hj; (· exact q2.2 j hj); (· rw [hj]; simp only [Int.toNat_natCast] at h6; exact (eqA_c _ _).symm.trans (by simpa only [Bool.not_eq_false'] using h6))⟩) (fun _ hs => hs.le (by repeat' (first | exact trivial | (first | exact Ent.refl _ | exact inc_ent (by omega) | exact Ent.nil rfl | exact Ent.of_eq (congrArg (AV.osl _ _ _) (by first | omega | (dsimp only; omega))) | exact Ent.of_eq (congrArg (AV.int _) (by first | omega | (dsimp only; omega)))) | refine And.intro ?_ ?_)) (trivial)) (by first | omega | (dsimp only; omega) | (simp; omega))
    · have g3 := cnd_dec_f h3
      exact k_out (Ent.of_eq (congrArg _ (eqs_e (by omega) (fun j hj => q2.2 j (by omega))).symm))

end Go.Proofs.YtbmdmoknnlhdoaaDoor

namespace Go.Sp
open Go Go.Am Go.Lib
def nmL : List Str := [[], wWithdraw, wPay, wTransfer, wDeposit, wDouble, wTrace, wClear, wTick]
theorem nm_at {w : Str} {x : Nat} (h1 : 1 ≤ x) (h2 : x ≤ 8) : nmL.getD x [] = w ↔ kindW w = x := by
  have : x = 1 ∨ x = 2 ∨ x = 3 ∨ x = 4 ∨ x = 5 ∨ x = 6 ∨ x = 7 ∨ x = 8 := by omega
  rcases this with rfl | rfl | rfl | rfl | rfl | rfl | rfl | rfl
  all_goals
    constructor
    · intro h; rw [← h]; decide
    · intro h
      rcases kindW_cases w with k | ⟨rfl, k⟩ | ⟨rfl, k⟩ | ⟨rfl, k⟩ | ⟨rfl, k⟩ | ⟨rfl, k⟩ | ⟨rfl, k⟩ | ⟨rfl, k⟩ | ⟨rfl, k⟩ <;> first | rfl | (rw [k] at h; cases h)
theorem kindW_le (w : Str) : kindW w ≤ 8 := by
  rcases kindW_cases w with k | ⟨rfl, k⟩ | ⟨rfl, k⟩ | ⟨rfl, k⟩ | ⟨rfl, k⟩ | ⟨rfl, k⟩ | ⟨rfl, k⟩ | ⟨rfl, k⟩ | ⟨rfl, k⟩ <;> omega
def kGo (w : Str) (x : Nat) : Int := if kindW w < x then (kindW w : Int) else 0
theorem kGo_one (w : Str) : kGo w 1 = 0 := by
  unfold kGo; split
  · have : kindW w = 0 := by omega
    rw [this]; rfl
  · rfl
theorem kGo_eq {w : Str} {x : Nat} (h1 : 1 ≤ x) (h2 : x ≤ 8) (h : nmL.getD x [] = w) : (x : Int) = kGo w (x + 1) := by
  have := (nm_at h1 h2).1 h
  unfold kGo; rw [if_pos (by omega), this]
theorem kGo_ne {w : Str} {x : Nat} (h1 : 1 ≤ x) (h2 : x ≤ 8) (h : nmL.getD x [] ≠ w) : kGo w x = kGo w (x + 1) := by
  have : kindW w ≠ x := fun e => h ((nm_at h1 h2).2 e)
  unfold kGo
  by_cases k : kindW w < x
  · rw [if_pos k, if_pos (by omega)]
  · rw [if_neg k, if_neg (by omega)]
theorem kGo_end {w : Str} {x : Nat} (h : 9 ≤ x) : kGo w x = (kindW w : Int) := by
  have := kindW_le w
  unfold kGo; rw [if_pos (by omega)]
def NL (D : List Str) (x : Nat) : List Int := (D.take x).map rnV
theorem NL_len {D : List Str} {x : Nat} (h : x ≤ D.length) : (NL D x).length = x := by unfold NL; rw [List.length_map, List.length_take, Nat.min_eq_left h]
theorem NL_snoc {D : List Str} {x : Nat} (h : x < D.length) : NL D (x + 1) = NL D x ++ [rnV (D.getD x [])] := by
  unfold NL
  rw [List.take_add_one, List.getElem?_eq_getElem h, List.getD_eq_getElem?_getD, List.getElem?_eq_getElem h, List.map_append]; rfl
theorem NL_at {D : List Str} {x i : Nat} (hx : D.length ≤ x) (hi : i < D.length) : (NL D x).getD i 0 = rnV (D.getD i []) := by
  unfold NL
  rw [List.take_of_length_le hx, List.getD_eq_getElem?_getD, List.getElem?_map, List.getD_eq_getElem?_getD, List.getElem?_eq_getElem hi]; rfl
theorem rnV_ok {w : Str} (h : numOk w = true) : rnV w = (decV w : Int) := by
  unfold numOk at h
  rw [Bool.and_eq_true] at h
  unfold rnV; rw [if_pos h.1]
theorem numsK_cnt (a : Cmd) : (a.kind = 1 → (numsK a).length = 2) ∧ ((a.kind = 2 ∨ a.kind = 3 ∨ a.kind = 5) → (numsK a).length = 3) ∧ ((a.kind = 4 ∨ a.kind = 6 ∨ a.kind = 8) → (numsK a).length = 1) ∧ (a.kind = 7 → (numsK a).length = 0) := by
  unfold numsK
  refine ⟨fun h => ?_, fun h => ?_, fun h => ?_, fun h => ?_⟩
  · simp [h]
  · rcases h with h | h | h <;> simp [h]
  · rcases h with h | h | h <;> simp [h]
  · simp [h]
theorem cnt_K {k : Nat} {a : Cmd} (h : a.kind = (k : Int)) (h0 : k ≠ 0) (h8 : k ≤ 8) : (numsK a).length = cntK k := by
  have c := numsK_cnt a
  have : k = 1 ∨ k = 2 ∨ k = 3 ∨ k = 4 ∨ k = 5 ∨ k = 6 ∨ k = 7 ∨ k = 8 := by omega
  rcases this with rfl | rfl | rfl | rfl | rfl | rfl | rfl | rfl
  · exact c.1 h
  · exact c.2.1 (.inl h)
  · exact c.2.1 (.inr (.inl h))
  · exact c.2.2.1 (.inl h)
  · exact c.2.1 (.inr (.inr h))
  · exact c.2.2.1 (.inr (.inl h))
  · exact c.2.2.2 h
  · exact c.2.2.1 (.inr (.inr h))
theorem act_o {ws : List Str} (h : 1 ≤ ws.length) (h0 : kindW (ws.getD 0 []) ≠ 0) (h4 : kindW (ws.getD 0 []) ≠ 4) : actR ws = finR (kindW (ws.getD 0 [])) 0 (ws.drop 1) := by
  cases ws with
  | nil => cases h
  | cons w r => rw [actR, if_neg (show ¬ kindW w = 0 from h0), if_neg (show ¬ kindW w = 4 from h4)]; rfl
theorem act_4 {ws : List Str} (h : 1 ≤ ws.length) (h4 : kindW (ws.getD 0 []) = 4) : actR ws = depR (ws.drop 1) := by
  cases ws with
  | nil => cases h
  | cons w r => rw [actR, if_neg (by rw [show kindW w = 4 from h4]; decide), if_pos (show kindW w = 4 from h4)]; rfl
theorem act_4h {ws : List Str} (h : 2 ≤ ws.length) (h4 : kindW (ws.getD 0 []) = 4) (hv : ws.getD 1 [] = wHolder) : actR ws = finR 4 1 (ws.drop 2) := by
  rw [act_4 (by omega) h4]
  match ws, h with
  | w :: v :: r, _ =>
    have hv : v = wHolder := hv
    subst hv
    show depR (wHolder :: r) = _
    rw [depR, if_neg (by decide), if_pos rfl]; rfl
theorem act_4m {ws : List Str} (h : 2 ≤ ws.length) (h4 : kindW (ws.getD 0 []) = 4) (hv : ws.getD 1 [] = wMerchant) : actR ws = finR 4 0 (ws.drop 2) := by
  rw [act_4 (by omega) h4]
  match ws, h with
  | w :: v :: r, _ =>
    have hv : v = wMerchant := hv
    subst hv
    show depR (wMerchant :: r) = _
    rw [depR, if_pos rfl]; rfl
theorem act_4n {ws : List Str} (h : 1 ≤ ws.length) (h4 : kindW (ws.getD 0 []) = 4) (hv : ws.length = 1 ∨ (ws.getD 1 [] ≠ wMerchant ∧ ws.getD 1 [] ≠ wHolder)) : actR ws = none := by
  rw [act_4 h h4]
  match ws, h with
  | [w], _ => rfl
  | w :: v :: r, _ =>
    rcases hv with hv | hv
    · simp at hv
    · show depR (v :: r) = _
      rw [depR, if_neg (show ¬ v = wMerchant from hv.1), if_neg (show ¬ v = wHolder from hv.2)]
theorem act_0 {ws : List Str} (h : ws.length = 0 ∨ kindW (ws.getD 0 []) = 0) : actR ws = none := by
  cases ws with
  | nil => rfl
  | cons w r =>
    rcases h with h | h
    · simp at h
    · rw [actR, if_pos (show kindW w = 0 from h)]
theorem outN {ws : List Str} (h : actR ws = none) : AV.tup [.agg [.int .i64 0, .int .i64 0, .int .i64 0, .int .i64 0, .bool false], .bool false] = .tup [.agg (Cmd.cells ((actR ws).getD .zero)), .bool (actR ws).isSome] := by rw [h]; rfl
theorem outY {ws : List Str} {K a b c : Int} {h : Bool} {B : Cmd} (e : actR ws = some B) (hb : B = ⟨K, a, b, c, h⟩) : AV.tup [.agg [.int .i64 K, .int .i64 a, .int .i64 b, .int .i64 c, .bool h], .bool true] = .tup [.agg (Cmd.cells ((actR ws).getD .zero)), .bool (actR ws).isSome] := by rw [e, hb]; rfl
theorem fin_n {ws D : List Str} {k : Nat} {mm : Int} (e : actR ws = finR k mm D) (h : D.length ≠ cntK k ∨ ∃ j, j < D.length ∧ numOk (D.getD j []) = false) : actR ws = none := by
  rw [e]; unfold finR
  rw [if_neg]
  rintro ⟨h1, h2⟩
  rcases h with h | ⟨j, hj, h⟩
  · exact h h1
  · have := List.all_eq_true.1 h2 D[j] (List.getElem_mem hj)
    rw [List.getD_eq_getElem?_getD, List.getElem?_eq_getElem hj] at h
    rw [show numOk D[j] = false from h] at this; cases this
theorem buildA_congr {k : Nat} {m : Int} {F G : Nat → Int} (h1 : 1 ≤ k) (h8 : k ≤ 8) (h : ∀ i, i < cntK k → F i = G i) : buildA k m F = buildA k m G := by
  have c : k = 1 ∨ k = 2 ∨ k = 3 ∨ k = 4 ∨ k = 5 ∨ k = 6 ∨ k = 7 ∨ k = 8 := by omega
  rcases c with rfl | rfl | rfl | rfl | rfl | rfl | rfl | rfl
  · simp [buildA, h 0 (by decide), h 1 (by decide)]
  · simp [buildA, h 0 (by decide), h 1 (by decide), h 2 (by decide)]
  · simp [buildA, h 0 (by decide), h 1 (by decide), h 2 (by decide)]
  · simp [buildA, h 0 (by decide)]
  · simp [buildA, h 0 (by decide), h 1 (by decide), h 2 (by decide)]
  · simp [buildA, h 0 (by decide)]
  · rfl
  · simp [buildA, h 0 (by decide)]
theorem fin_y {ws D : List Str} {k : Nat} {mm : Int} (k1 : 1 ≤ k) (k8 : k ≤ 8) (e : actR ws = finR k mm D) (h1 : D.length = cntK k) (h2 : ∀ j, j < D.length → numOk (D.getD j []) = true) : actR ws = some (buildA k mm fun i => rnV (D.getD i [])) := by
  rw [e]; unfold finR
  have ha : D.all numOk = true := List.all_eq_true.2 fun w hw => by
    obtain ⟨j, hj, rfl⟩ := List.getElem_of_mem hw
    have := h2 j hj
    rwa [List.getD_eq_getElem?_getD, List.getElem?_eq_getElem hj] at this
  rw [if_pos ⟨h1, ha⟩]
  exact congrArg some (buildA_congr k1 k8 fun i hi => (rnV_ok (h2 i (by omega))).symm)
theorem getD_drop (ws : List Str) (d j : Nat) : (ws.drop d).getD j [] = ws.getD (j + d) [] := by
  rw [List.getD_eq_getElem?_getD, List.getElem?_drop, List.getD_eq_getElem?_getD, Nat.add_comm]
theorem NL_drop {ws : List Str} {d x : Nat} (h : x < ws.length - d) : NL (ws.drop d) (x + 1) = NL (ws.drop d) x ++ [rnV (ws.getD (x + d) [])] := by
  rw [NL_snoc (by rw [List.length_drop]; exact h), getD_drop]
theorem NL_dlen {ws : List Str} {d x : Nat} (h : x ≤ ws.length - d) : (NL (ws.drop d) x).length = x := NL_len (by rw [List.length_drop]; exact h)
theorem act_ok {ws : List Str} (k : Nat) (hk : kindW (ws.getD 0 []) = k) (h : 1 ≤ ws.length) (h0 : k ≠ 0) (h4 : k ≠ 4) : actR ws = finR k 0 (ws.drop 1) := by
  subst hk; exact act_o h h0 h4
theorem kn_ok {ws : List Str} {d x : Nat} (q : ∀ j, j < x → numOk ((ws.drop d).getD j []) = true) (g : numOk (ws.getD (x + d) []) = true) : ∀ j, j < x + 1 → numOk ((ws.drop d).getD j []) = true := fun j hj => by
  rcases Nat.lt_succ_iff_lt_or_eq.1 hj with hj | rfl
  · exact q j hj
  · rw [getD_drop]; exact g
theorem kn_no {ws : List Str} {d x k : Nat} {mm : Int} (e : actR ws = finR k mm (ws.drop d)) (h : x < ws.length - d) (g : numOk (ws.getD (x + d) []) = false) : actR ws = none :=
  fin_n e (.inr ⟨x, by rw [List.length_drop]; exact h, by rw [getD_drop]; exact g⟩)
theorem kl_no {ws : List Str} {d k : Nat} {mm K w : Int} {b : Bool} (e : actR ws = finR k mm (ws.drop d)) (hK : K = (k : Int)) (h0 : k ≠ 0) (h8 : k ≤ 8) (h : ¬ ((ws.length - d : Nat) : Int) = ((numsK ⟨K, 0, w, 0, b⟩).length : Int)) : actR ws = none :=
  fin_n e (.inl fun hc => by
    rw [List.length_drop] at hc
    rw [cnt_K (a := ⟨K, 0, w, 0, b⟩) hK h0 h8, hc] at h
    exact h rfl)
theorem yk {os : List (Option Ob)} {ws : List Str} {d k x : Nat} {mm K a b c w : Int} {h h' : Bool} (k1 : k ≠ 0) (k8 : k ≤ 8) (e : actR ws = finR k mm (ws.drop d)) (hK : K = (k : Int)) (hl : ((ws.length - d : Nat) : Int) = ((numsK ⟨K, 0, w, 0, h'⟩).length : Int)) (hx : ws.length - d ≤ x) (hx2 : x ≤ ws.length - d)
    (hd : ∀ j, j < x → numOk ((ws.drop d).getD j []) = true) (hb : buildA k mm (fun i => (NL (ws.drop d) x).getD i 0) = ⟨(k : Int), a, b, c, h⟩) :
    Ent os (.tup [.agg [.int .i64 K, .int .i64 a, .int .i64 b, .int .i64 c, .bool h], .bool true]) (.tup [.agg (Cmd.cells ((actR ws).getD .zero)), .bool (actR ws).isSome]) := by
  have hl' : (ws.drop d).length = cntK k := by
    rw [cnt_K (a := ⟨K, 0, w, 0, h'⟩) hK k1 k8] at hl
    rw [List.length_drop]; omega
  refine Ent.of_eq (outY (fin_y (by omega) k8 e hl' fun j hj => hd j (by rw [List.length_drop] at hj; omega)) ?_)
  rw [hK, ← hb]
  exact buildA_congr (by omega) k8 fun i hi => (NL_at (by rw [List.length_drop]; exact hx) (by rw [hl']; exact hi)).symm
theorem names_ent {os : List (Option Ob)} {mu : Bool} : ObEnt os ⟨1, 9, mu, .lst [[.str (bs [])], [.str (bs wWithdraw)], [.str (bs wPay)], [.str (bs wTransfer)], [.str (bs wDeposit)], [.str (bs wDouble)], [.str (bs wTrace)], [.str (bs wClear)], [.str (bs wTick)]]⟩ ⟨1, 9, mu, .row fun i => [.str (bs (nmL.getD i []))]⟩ := by
  refine ⟨rfl, rfl, rfl, fun i j hi hj => ?_⟩
  have hi : i < 9 := hi
  have hj : j < 1 := hj
  obtain rfl : j = 0 := Nat.lt_one_iff.1 hj
  have : i = 0 ∨ i = 1 ∨ i = 2 ∨ i = 3 ∨ i = 4 ∨ i = 5 ∨ i = 6 ∨ i = 7 ∨ i = 8 := by omega
  rcases this with rfl | rfl | rfl | rfl | rfl | rfl | rfl | rfl | rfl <;> exact Ent.refl _
end Go.Sp
