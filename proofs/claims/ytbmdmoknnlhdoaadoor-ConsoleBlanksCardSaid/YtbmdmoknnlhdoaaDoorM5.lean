/- Part of the proof: LL11, EnShp. -/
import Derived.Test.YtbmdmoknnlhdoaaDoorM4
import Derived.Test.YtbmdmoknnlhdoaaDoorProg
import Derived.Test.YtbmdmoknnlhdoaaDoorM3
import Derived.HandedShaped
import Derived.Shelf.Vars
namespace Go.Proofs.YtbmdmoknnlhdoaaDoor
open Go Go.Am Go.Sp Go.Lib Go.RowKit
set_option maxRecDepth 100000

theorem join_g (m : GP) (ws : List Str) (q : Str) (h : (join ws q).length ≤ 140737488355328) (hn : ws.length ≤ 140737488355328) : Pure Tryd.prog (gl0 m) 27 [.isl 1 ws.length fun i _ => .str (bs (ws.getD i [])), .str (bs q)] (.str (bs (join ws q))) := by
  refine pure_of ⟨_, _, Tryd.func27, rfl, by kernel_rfl⟩ fun β w vs hf hg ha => ?_
  obtain ⟨u, v, rfl, h1, h2⟩ := rels2 ha
  obtain ⟨a, cap, rfl, hcap, _, hk⟩ := rel_isl_inv h1
  rw [rel_str_inv h2]
  cases ws with
  | nil =>
    refine (Tryd.strings_Join_none a cap (bs q) w).mono fun e w' hh => ?_
    obtain ⟨he, rfl⟩ := hh
    exact ⟨_, he, Below.refl _ _, .str⟩
  | cons x xs =>
    obtain ⟨b, off, vals, rfl, _, _, hc, hr, _⟩ := hk (Nat.succ_pos _)
    have hcell : ∀ (j : Nat) y, ((x :: xs).map bs)[j]? = some y → w.cell? ⟨b, off + j, none⟩ = some (.string y) := fun j y hj => by
      rw [List.getElem?_map, Option.map_eq_some_iff] at hj
      obtain ⟨z, hz, rfl⟩ := hj
      have hlt := (List.getElem?_eq_some_iff.1 hz).1
      have := hc j 0 hlt (by decide)
      rw [Nat.mul_one, Nat.add_zero] at this
      rw [this, rel_str_inv (hr j 0 hlt (by decide)), List.getD_eq_getElem?_getD, hz]; rfl
    have e1 : ((x :: xs).map bs).map (·.data.toList) = x :: xs := by rw [List.map_map]; exact List.map_id _
    have := Tryd.strings_Join b off cap ((x :: xs).map bs) (bs q) w hcell (lt_of_cell? (hcell 0 _ rfl)) (by simpa using hn) (by simpa using hcap) (by rw [e1]; exact h)
    rw [e1, List.length_map] at this
    refine this.mono fun e w' hh => ?_
    obtain ⟨he, hb⟩ := hh
    exact ⟨_, he, hb, .str⟩

theorem wrep_c (m : GP) (t : Bool) (l : Str) (hl : l.length < 4294967281) : Pure Tryd.prog (gl0 m) 18 [.str (bs (cut l [35]).1), .str (bs [32]), .str (bs (blk t))] (.str (bs ((l.takeWhile (· != 35)).flatMap fun b => if b = 32 then blk t else [b]))) := by
  have h := (List.takeWhile_sublist (l := l) (· != 35)).length_le
  have c := replace_c m (cut l [35]).1 [32] (blk t) (by rw [cut_one]; omega) (by cases t <;> decide) (by
    have := count_le (cut l [35]).1 [32]
    rw [cut_one] at this ⊢
    have e : (blk t).length = 2 := by cases t <;> rfl
    rw [e]; omega)
  rw [replaceAll_fl (by cases t <;> decide), cut_one] at c
  rw [cut_one]
  exact c
def rowS (w : Str) : List AV := [.str (bs w)]
theorem z2 (a b : UInt8) : (ByteArray.mk #[a, b]).size = 2 := rfl
theorem wid_at (t : Bool) (c : Str) {L : List Str} {x : Nat} (h : x ≤ L.length) : (widLs t c (L.take x)).length = 2 * x := by rw [widLs_len, List.length_take, Nat.min_eq_left h]
theorem wrow_c (c : Str) : [AV.str (ByteArray.mk #[35] ++ bs c)] = rowS (35 :: c) := by
  show [AV.str (bs [35] ++ bs c)] = _
  rw [bs_app]; rfl
theorem wrow_t (c l : Str) : [AV.str (ByteArray.mk #[32, 9] ++ bs ((l.takeWhile (· != 35)).flatMap fun b => if b = 32 then blk true else [b]) ++ ByteArray.mk #[32, 9] ++ ByteArray.mk #[35, 32] ++ bs c)] = rowS (widL true c l) := by
  show [AV.str (bs [32, 9] ++ bs _ ++ bs [32, 9] ++ bs [35, 32] ++ bs c)] = _
  rw [bs_app, bs_app, bs_app, bs_app]; rfl
theorem wrow_f (c l : Str) : [AV.str (ByteArray.mk #[32, 32] ++ bs ((l.takeWhile (· != 35)).flatMap fun b => if b = 32 then blk false else [b]) ++ ByteArray.mk #[32, 32] ++ ByteArray.mk #[35, 32] ++ bs c)] = rowS (widL false c l) := by
  show [AV.str (bs [32, 32] ++ bs _ ++ bs [32, 32] ++ bs [35, 32] ++ bs c)] = _
  rw [bs_app, bs_app, bs_app, bs_app]; rfl
theorem join_t (m : GP) (t : Bool) (c : Str) (L : List Str) (hw : (join (widLs t c L) [10]).length ≤ 140737488355328) {n : Nat} (hn : L.length ≤ n + 1) (hl : n < 4294967281) (x : Nat) (hx : L.length ≤ x) :
    Pure Tryd.prog (gl0 m) 27 [.isl 1 (widLs t c (L.take x)).length fun r k => atL [AV.str (bs (List.getD (widLs t c (L.take x)) (r + 0) []))] k, .str (bs [10])] (.str (bs (join (widLs t c L) [10]))) := by
  rw [List.take_of_length_le hx]
  exact (join_g m (widLs t c L) [10] hw (by rw [widLs_len]; omega)).via ⟨Ent.isl fun i j hi hj => by obtain rfl : j = 0 := Nat.lt_one_iff.1 hj; rfl, Ent.refl _, trivial⟩
def BlkOk (c s : Str) : Prop := (s.length ≤ 2000 ∧ c.length ≤ 20) ∧ contains c [10] = false
theorem blk_ok {c s : Str} (h : (¬ ((bs s).size : Int) > 2000 ∧ ¬ ((bs c).size : Int) > 20) ∧ contains c [10] = false) : BlkOk c s := by
  rw [bs_size, bs_size] at h
  exact ⟨⟨by omega, by omega⟩, h.2⟩
theorem blanks_t (m : GP) (c s : Str) (D : List Cmd × Int × Int) (k : (spl 10 s).length ≤ s.length + 1 ∧ ∀ w ∈ spl 10 s, w.length ≤ s.length) (hw : BlkOk c s → (widS true c s).length ≤ 140737488355328) (hD : D.1.length ≤ 200 ∧ 0 ≤ D.2.1 ∧ D.2.1 ≤ (s.length : Int) + 1)
    (c6 : BlkOk c s → Pure Tryd.prog (gl0 m) 21 [.str (bs s)] (scA D))
    (c7 : BlkOk c s → ¬ ((bs (widS true c s)).size : Int) > 16384 → Pure Tryd.prog (gl0 m) 21 [.str (bs (widS true c s))] (scA (D.1, 2 * D.2.1, D.2.2))) :
    Pure Tryd.prog (gl0 m) 7 [.str (bs s), .str (bs c), .bool true] (.bool true) := by
  have c0 := awake_c m
  have c1 := fun h : c.length ≤ 20 => contains_c m c [10] (by omega)
  have c2 := fun h : BlkOk c s => split_c m 10 s (by have := h.1; omega)
  have zs := bs_size s
  have zc := bs_size c
  unfold widS at hw c7
  generalize spl 10 s = L at c2 k hw c7
  have hL : ∀ i, (L.getD i []).length ≤ s.length := fun i => getD_len k.2
  have c3 := fun i (h : BlkOk c s) => cut_c m (L.getD i []) [35] (by have := hL i; have := h.1; omega)
  have c4 := fun i (h : BlkOk c s) => wrep_c m true (L.getD i []) (by have := hL i; have := h.1; omega)
  have c5 := fun x (h : BlkOk c s) hx => join_t m true c L (hw h) k.1 (by have := h.1; omega) x hx
  have c8 := equal_c m D.1.length D.1.length (fun i => D.1.getD i .zero) (fun i => D.1.getD i .zero) (by omega)
  rw [eqs_t fun j hj => eqA_iff.2 rfl] at c8
  refine pure_sk (own := ow0) Tryd.func7 (by kernel_rfl) mixed (by kernel_rfl)
    (.sc (true) 8 ([]) (AV.bool true) (.sc ((decide ((↑(ByteArray.size (bs s)) : Int) > (2000 : Int)) || decide ((↑(ByteArray.size (bs c)) : Int) > (20 : Int))) == false) 25 ([AV.str (bs c), AV.str { data := #[(10 : UInt8)] }]) (AV.bool (contains c [(10 : UInt8)])) (.br (decide ((↑(ByteArray.size (bs s)) : Int) > (2000 : Int)) || decide ((↑(ByteArray.size (bs c)) : Int) > (20 : Int)) || contains c [(10 : UInt8)]) (.sc (true) 8 ([]) (AV.bool true) (.out (AV.bool true) [] (AV.bool true) [])) (.tt (.dc (true) 16 ([AV.str (bs s), AV.str { data := #[(10 : UInt8)] }]) (AV.isl (1 : Nat) (List.length L) fun (i x : Nat) => AV.str (bs (List.getD L i []))) (.loop ({ x : Nat // x ≤ List.length L ∧ (fun (x : Nat) => True) x }) (fun (x : { x : Nat // x ≤ List.length L ∧ (fun (x : Nat) => True) x }) => mkSt [0, 1, 7, 40, 41, 8, 42] [AV.str (bs s), AV.str (bs c), AV.str { data := #[(32 : UInt8), (9 : UInt8)] }, AV.isl (1) (List.length L) fun (i x : Nat) => AV.str (bs (List.getD L i [])), Zi (↑(List.length L) : Int), AV.osl (0 : Nat) (1 : Nat) (0 : Nat) (List.length (widLs true c (List.take (x.1) L))), Zi (↑(x.1) : Int)] [some { es := (1 : Nat), n := List.length (widLs true c (List.take (x.1) L)), mu := true, f := Rep.row fun (i : Nat) => rowS (List.getD (widLs true c (List.take (x.1) L)) i []) }]) (fun (x : { x : Nat // x ≤ List.length L ∧ (fun (x : Nat) => True) x }) => List.length L - x.1) (⟨(0 : Nat), ⟨Nat.zero_le (List.length L), trivial⟩⟩) ([0, 1, 7, 40, 41, 8, 42]) ([456]) ([AV.str (bs s), AV.str (bs c), AV.str { data := #[(32 : UInt8), (9 : UInt8)] }, AV.isl (1) (List.length L) fun (i x : Nat) => AV.str (bs (List.getD L i [])), Zi (↑(List.length L) : Int), AV.nsl, Zi 0]) ([some { es := 1, n := 0, mu := true, f := Rep.lst [] }]) (fun x7 => (.br (decide ((↑x7.1 : Int) < (↑(List.length L) : Int))) (.req ((0 : Int) ≤ (↑x7.1 : Int) ∧ (↑x7.1 : Int) < (↑(List.length L) : Int)) (.sc (true) 26 ([AV.str (bs (List.getD L (Int.toNat (↑x7.1 : Int)) [])), AV.str { data := #[(35 : UInt8)] }]) (AV.tup [AV.str (bs (Prod.fst (cut (List.getD L (Int.toNat (↑x7.1 : Int)) []) [(35 : UInt8)]))), AV.str (bs (Prod.fst (Prod.snd (cut (List.getD L (Int.toNat (↑x7.1 : Int)) []) [(35 : UInt8)])))), AV.bool (Prod.snd (Prod.snd (cut (List.getD L (Int.toNat (↑x7.1 : Int)) []) [(35 : UInt8)])))]) (.req (1 + ByteArray.size (bs c) ≤ 9223372036854775807) (.sc (true) 18 ([AV.str (bs (cut (List.getD L (Int.toNat (↑x7.1 : Int)) []) [(35 : UInt8)]).1), AV.str { data := #[(32 : UInt8)] }, AV.str { data := #[(32 : UInt8), (9 : UInt8)] }]) (AV.str (bs (List.flatMap (fun (b : UInt8) => if b = (32 : UInt8) then blk true else [b]) (List.takeWhile (fun (x : UInt8) => x != (35 : UInt8)) (List.getD L (Int.toNat (↑x7.1 : Int)) []))))) (.req (2 + ByteArray.size (bs (List.flatMap (fun (b : UInt8) => if b = (32 : UInt8) then blk true else [b]) (List.takeWhile (fun (x : UInt8) => x != (35 : UInt8)) (List.getD L (Int.toNat (↑x7.1 : Int)) [])))) ≤ 9223372036854775807) (.req (ByteArray.size ({ data := #[(32 : UInt8), (9 : UInt8)] } ++ bs (List.flatMap (fun (b : UInt8) => if b = (32 : UInt8) then blk true else [b]) (List.takeWhile (fun (x : UInt8) => x != (35 : UInt8)) (List.getD L (Int.toNat (↑x7.1 : Int)) [])))) + 2 ≤ 9223372036854775807) (.req (ByteArray.size ({ data := #[(32 : UInt8), (9 : UInt8)] } ++ bs (List.flatMap (fun (b : UInt8) => if b = (32 : UInt8) then blk true else [b]) (List.takeWhile (fun (x : UInt8) => x != (35 : UInt8)) (List.getD L (Int.toNat (↑x7.1 : Int)) []))) ++ { data := #[(32 : UInt8), (9 : UInt8)] }) + 2 ≤ 9223372036854775807) (.req (ByteArray.size ({ data := #[(32 : UInt8), (9 : UInt8)] } ++ bs (List.flatMap (fun (b : UInt8) => if b = (32 : UInt8) then blk true else [b]) (List.takeWhile (fun (x : UInt8) => x != (35 : UInt8)) (List.getD L (Int.toNat (↑x7.1 : Int)) []))) ++ { data := #[(32 : UInt8), (9 : UInt8)] } ++ { data := #[(35 : UInt8), (32 : UInt8)] }) + ByteArray.size (bs c) ≤ 9223372036854775807) (.req ((List.length (widLs true c (List.take (x7.1) L)) + 2) * 16 ≤ 140737488355328) (.again (Again (0) (fun (x : { x : Nat // x ≤ List.length L ∧ (fun (x : Nat) => True) x }) => mkSt [0, 1, 7, 40, 41, 8, 42] [AV.str (bs s), AV.str (bs c), AV.str { data := #[(32 : UInt8), (9 : UInt8)] }, AV.isl (1) (List.length L) fun (i x : Nat) => AV.str (bs (List.getD L i [])), Zi (↑(List.length L) : Int), AV.osl (0 : Nat) (1 : Nat) (0 : Nat) (List.length (widLs true c (List.take (x.1) L))), Zi (↑(x.1) : Int)] [some { es := (1 : Nat), n := List.length (widLs true c (List.take (x.1) L)), mu := true, f := Rep.row fun (i : Nat) => rowS (List.getD (widLs true c (List.take (x.1) L)) i []) }]) (fun (x : { x : Nat // x ≤ List.length L ∧ (fun (x : Nat) => True) x }) => List.length L - x.1) x7) ([0, 1, 7, 40, 41, 8, 42]) ([217]) ([AV.str (bs s), AV.str (bs c), AV.str { data := #[(32 : UInt8), (9 : UInt8)] }, AV.isl (1) (List.length L) fun (i x : Nat) => AV.str (bs (List.getD L i [])), Zi (↑(List.length L) : Int), AV.osl (0) (1) (0) (List.length (widLs true c (List.take (x7.1) L)) + 2), Zi (IntKind.wrap IntKind.i64 ((↑x7.1 : Int) + (1 : Int)))]) ([some { es := 1, n := List.length (widLs true c (List.take (x7.1) L)) + 2, mu := true, f := Rep.cat (List.length (widLs true c (List.take (x7.1) L))) (Rep.row fun (i : Nat) => [AV.str (bs (List.getD (widLs true c (List.take (x7.1) L)) i []))]) (Rep.lst [[AV.str ({ data := #[(35 : UInt8)] } ++ bs c)], [AV.str ({ data := #[(32 : UInt8), (9 : UInt8)] } ++ bs (List.flatMap (fun (b : UInt8) => if b = (32 : UInt8) then blk true else [b]) (List.takeWhile (fun (x : UInt8) => x != (35 : UInt8)) (List.getD L (Int.toNat (↑x7.1 : Int)) []))) ++ { data := #[(32 : UInt8), (9 : UInt8)] } ++ { data := #[(35 : UInt8), (32 : UInt8)] } ++ bs c)]]) }]))))))))))) (.sc (true) 27 ([AV.isl (1) (List.length (widLs true c (List.take (x7.1) L))) fun (r k : Nat) => atL [AV.str (bs (List.getD (widLs true c (List.take (x7.1) L)) (r + 0) []))] k, AV.str { data := #[(10 : UInt8)] }]) (AV.str (bs (join (widLs true c L) [(10 : UInt8)]))) (.br (decide ((↑(ByteArray.size (bs (join (widLs true c L) [(10 : UInt8)]))) : Int) > (16384 : Int))) (.out (AV.bool true) [] (AV.bool true) []) (.dc (true) 21 ([AV.str (bs s)]) (scA D) (.dc (true) 21 ([AV.str (bs (join (widLs true c L) [(10 : UInt8)]))]) (scA (Prod.fst D, (2 : Int) * Prod.fst (Prod.snd D), Prod.snd (Prod.snd D))) (.sc (true) 24 ([AV.isl (5) (List.length (Prod.fst D)) fun (i j : Nat) => atL (Cmd.cells (List.getD (Prod.fst D) i Cmd.zero)) j, AV.isl (5) (List.length (Prod.fst (Prod.fst D, (2 : Int) * Prod.fst (Prod.snd D), Prod.snd (Prod.snd D)))) fun (i j : Nat) => atL (Cmd.cells (List.getD (Prod.fst (Prod.fst D, (2 : Int) * Prod.fst (Prod.snd D), Prod.snd (Prod.snd D))) i Cmd.zero)) j]) (AV.bool true) (.out (AV.bool ((Prod.snd D).2 == (Prod.snd D).2 && (2 : Int) * (Prod.snd D).1 == IntKind.wrap IntKind.i64 ((2 : Int) * (Prod.snd D).1))) [] (AV.bool true) []))))))))))))))
    (by kernel_rfl) ?_
  refine k_sc (c0) ?_
  refine k_scg (fun h1 => c1 ((by simp at h1; omega))) ?_
  refine k_br (fun h2 => ?_) (fun h2 => ?_)
  · have g2 := (cnd_or_t (cnd_or_t cnd_dec_t cnd_dec_t) cnd_id_t) h2
    refine k_sc (c0) ?_
    exact k_out (Ent.of_eq (by first | rfl | simp_all))
  · have g2 := (cnd_or_f (cnd_or_f cnd_dec_f cnd_dec_f) cnd_id_f) h2
    refine k_tt ?_
    refine k_dc (c2 ((by first | exact blk_ok g2 | omega))) ?_
    refine k_loop (fun _ hs => hs.le (by repeat' (first | exact trivial | (first | exact Ent.refl _ | exact inc_ent (by omega) | exact Ent.nil rfl | exact Ent.of_eq (congrArg (AV.osl _ _ _) (by first | omega | (dsimp only; omega))) | exact Ent.of_eq (congrArg (AV.int _) (by first | omega | (dsimp only; omega)))) | refine And.intro ?_ ?_)) (by repeat' (first | exact trivial | (first | exact ObEnt.refl _ | exact ObEnt.junk | exact ObEnt.zero | exact ObEnt.push rfl rfl | exact ObEnt.pushRow rfl | exact ObEnt.len (by omega) | exact ObEnt.row (by repeat' (first | exact trivial | (first | exact Ent.refl _ | exact inc_ent (by omega) | exact Ent.nil rfl | exact Ent.of_eq (congrArg (AV.osl _ _ _) (by first | omega | (dsimp only; omega))) | exact Ent.of_eq (congrArg (AV.int _) (by first | omega | (dsimp only; omega)))) | refine And.intro ?_ ?_))) | refine And.intro ?_ ?_))) (fun x7 => ?_)
    try (have q7 := x7.2; dsimp only at q7)
    have e1 := wI (n := (x7.1 : Int) + 1) (by omega) (by omega); have e2 := wid_at true c (show x7.1 ≤ L.length from x7.2.1); have e3 := fun h : x7.1 + 1 ≤ L.length => wid_at true c h; have e4 := Nat.le_trans (wid_fl true (L.getD x7.1 [])) (Nat.mul_le_mul_left 2 (hL x7.1)); have e5 := wI (n := 2 * D.2.1) (by omega) (by omega)
    refine k_br (fun h8 => ?_) (fun h8 => ?_)
    · have g8 := cnd_dec_t h8
      refine k_req (by simp only [Int.toNat_natCast, ByteArray.size_append, z2, bs_size, List.length_cons, List.length_nil]; omega) ?_
      refine k_sc (c3 (Int.toNat (↑x7.1 : Int)) ((by first | exact blk_ok g2 | omega))) ?_
      refine k_req (by simp only [Int.toNat_natCast, ByteArray.size_append, z2, bs_size, List.length_cons, List.length_nil]; omega) ?_
      refine k_sc (c4 (Int.toNat (↑x7.1 : Int)) ((by first | exact blk_ok g2 | omega))) ?_
      refine k_req (by simp only [Int.toNat_natCast, ByteArray.size_append, z2, bs_size, List.length_cons, List.length_nil]; omega) ?_
      refine k_req (by simp only [Int.toNat_natCast, ByteArray.size_append, z2, bs_size, List.length_cons, List.length_nil]; omega) ?_
      refine k_req (by simp only [Int.toNat_natCast, ByteArray.size_append, z2, bs_size, List.length_cons, List.length_nil]; omega) ?_
      refine k_req (by simp only [Int.toNat_natCast, ByteArray.size_append, z2, bs_size, List.length_cons, List.length_nil]; omega) ?_
      refine k_req (by simp only [Int.toNat_natCast, ByteArray.size_append, z2, bs_size, List.length_cons, List.length_nil]; omega) ?_
      exact k_again (⟨x7.1 + 1, by omega, trivial⟩) (fun _ hs => hs.le (by repeat' (first | exact trivial | (first | exact Ent.refl _ | exact inc_ent (by omega) | exact Ent.nil rfl | exact Ent.of_eq (congrArg (AV.osl _ _ _) (by first | omega | (dsimp only; omega))) | exact Ent.of_eq (congrArg (AV.int _) (by first | omega | (dsimp only; omega)))) | refine And.intro ?_ ?_)) (⟨.pushA2 rowS [] (wrow_c c) (wrow_t c _) (widLs_snoc true c (by omega)), trivial⟩)) (by first | omega | (dsimp only; omega) | (simp; omega))
    · have g8 := cnd_dec_f h8
      refine k_sc (c5 (x7.1) ((by first | exact blk_ok g2 | omega)) ((by first | exact blk_ok g2 | omega))) ?_
      refine k_br (fun h20 => ?_) (fun h20 => ?_)
      · have g20 := cnd_dec_t h20
        exact k_out (Ent.of_eq (by first | rfl | simp_all))
      · have g20 := cnd_dec_f h20
        refine k_dc (c6 ((by first | exact blk_ok g2 | omega))) ?_
        refine k_dc (c7 ((by first | exact blk_ok g2 | omega)) ((by first | exact blk_ok g2 | omega))) ?_
        refine k_sc (c8) ?_
        exact k_out (Ent.of_eq (by first | rfl | simp_all))

theorem blanks_f (m : GP) (c s : Str) (D : List Cmd × Int × Int) (k : (spl 10 s).length ≤ s.length + 1 ∧ ∀ w ∈ spl 10 s, w.length ≤ s.length) (hw : BlkOk c s → (widS false c s).length ≤ 140737488355328) (hD : D.1.length ≤ 200 ∧ 0 ≤ D.2.1 ∧ D.2.1 ≤ (s.length : Int) + 1)
    (c6 : BlkOk c s → Pure Tryd.prog (gl0 m) 21 [.str (bs s)] (scA D))
    (c7 : BlkOk c s → ¬ ((bs (widS false c s)).size : Int) > 16384 → Pure Tryd.prog (gl0 m) 21 [.str (bs (widS false c s))] (scA (D.1, 2 * D.2.1, D.2.2))) :
    Pure Tryd.prog (gl0 m) 7 [.str (bs s), .str (bs c), .bool false] (.bool true) := by
  have c0 := awake_c m
  have c1 := fun h : c.length ≤ 20 => contains_c m c [10] (by omega)
  have c2 := fun h : BlkOk c s => split_c m 10 s (by have := h.1; omega)
  have zs := bs_size s
  have zc := bs_size c
  unfold widS at hw c7
  generalize spl 10 s = L at c2 k hw c7
  have hL : ∀ i, (L.getD i []).length ≤ s.length := fun i => getD_len k.2
  have c3 := fun i (h : BlkOk c s) => cut_c m (L.getD i []) [35] (by have := hL i; have := h.1; omega)
  have c4 := fun i (h : BlkOk c s) => wrep_c m false (L.getD i []) (by have := hL i; have := h.1; omega)
  have c5 := fun x (h : BlkOk c s) hx => join_t m false c L (hw h) k.1 (by have := h.1; omega) x hx
  have c8 := equal_c m D.1.length D.1.length (fun i => D.1.getD i .zero) (fun i => D.1.getD i .zero) (by omega)
  rw [eqs_t fun j hj => eqA_iff.2 rfl] at c8
  refine pure_sk (own := ow0) Tryd.func7 (by kernel_rfl) mixed (by kernel_rfl)
    (.sc (true) 8 ([]) (AV.bool true) (.sc ((decide ((↑(ByteArray.size (bs s)) : Int) > (2000 : Int)) || decide ((↑(ByteArray.size (bs c)) : Int) > (20 : Int))) == false) 25 ([AV.str (bs c), AV.str { data := #[(10 : UInt8)] }]) (AV.bool (contains c [(10 : UInt8)])) (.br (decide ((↑(ByteArray.size (bs s)) : Int) > (2000 : Int)) || decide ((↑(ByteArray.size (bs c)) : Int) > (20 : Int)) || contains c [(10 : UInt8)]) (.sc (true) 8 ([]) (AV.bool true) (.out (AV.bool true) [] (AV.bool true) [])) (.ff (.dc (true) 16 ([AV.str (bs s), AV.str { data := #[(10 : UInt8)] }]) (AV.isl (1 : Nat) (List.length L) fun (i x : Nat) => AV.str (bs (List.getD L i []))) (.loop ({ x : Nat // x ≤ List.length L ∧ (fun (x : Nat) => True) x }) (fun (x : { x : Nat // x ≤ List.length L ∧ (fun (x : Nat) => True) x }) => mkSt [0, 1, 7, 40, 41, 8, 42] [AV.str (bs s), AV.str (bs c), AV.str { data := #[(32 : UInt8), (32 : UInt8)] }, AV.isl (1) (List.length L) fun (i x : Nat) => AV.str (bs (List.getD L i [])), Zi (↑(List.length L) : Int), AV.osl (0 : Nat) (1 : Nat) (0 : Nat) (List.length (widLs false c (List.take (x.1) L))), Zi (↑(x.1) : Int)] [some { es := (1 : Nat), n := List.length (widLs false c (List.take (x.1) L)), mu := true, f := Rep.row fun (i : Nat) => rowS (List.getD (widLs false c (List.take (x.1) L)) i []) }]) (fun (x : { x : Nat // x ≤ List.length L ∧ (fun (x : Nat) => True) x }) => List.length L - x.1) (⟨(0 : Nat), ⟨Nat.zero_le (List.length L), trivial⟩⟩) ([0, 1, 7, 40, 41, 8, 42]) ([448]) ([AV.str (bs s), AV.str (bs c), AV.str { data := #[(32 : UInt8), (32 : UInt8)] }, AV.isl (1) (List.length L) fun (i x : Nat) => AV.str (bs (List.getD L i [])), Zi (↑(List.length L) : Int), AV.nsl, Zi 0]) ([some { es := 1, n := 0, mu := true, f := Rep.lst [] }]) (fun x7 => (.br (decide ((↑x7.1 : Int) < (↑(List.length L) : Int))) (.req ((0 : Int) ≤ (↑x7.1 : Int) ∧ (↑x7.1 : Int) < (↑(List.length L) : Int)) (.sc (true) 26 ([AV.str (bs (List.getD L (Int.toNat (↑x7.1 : Int)) [])), AV.str { data := #[(35 : UInt8)] }]) (AV.tup [AV.str (bs (Prod.fst (cut (List.getD L (Int.toNat (↑x7.1 : Int)) []) [(35 : UInt8)]))), AV.str (bs (Prod.fst (Prod.snd (cut (List.getD L (Int.toNat (↑x7.1 : Int)) []) [(35 : UInt8)])))), AV.bool (Prod.snd (Prod.snd (cut (List.getD L (Int.toNat (↑x7.1 : Int)) []) [(35 : UInt8)])))]) (.req (1 + ByteArray.size (bs c) ≤ 9223372036854775807) (.sc (true) 18 ([AV.str (bs (cut (List.getD L (Int.toNat (↑x7.1 : Int)) []) [(35 : UInt8)]).1), AV.str { data := #[(32 : UInt8)] }, AV.str { data := #[(32 : UInt8), (32 : UInt8)] }]) (AV.str (bs (List.flatMap (fun (b : UInt8) => if b = (32 : UInt8) then blk false else [b]) (List.takeWhile (fun (x : UInt8) => x != (35 : UInt8)) (List.getD L (Int.toNat (↑x7.1 : Int)) []))))) (.req (2 + ByteArray.size (bs (List.flatMap (fun (b : UInt8) => if b = (32 : UInt8) then blk false else [b]) (List.takeWhile (fun (x : UInt8) => x != (35 : UInt8)) (List.getD L (Int.toNat (↑x7.1 : Int)) [])))) ≤ 9223372036854775807) (.req (ByteArray.size ({ data := #[(32 : UInt8), (32 : UInt8)] } ++ bs (List.flatMap (fun (b : UInt8) => if b = (32 : UInt8) then blk false else [b]) (List.takeWhile (fun (x : UInt8) => x != (35 : UInt8)) (List.getD L (Int.toNat (↑x7.1 : Int)) [])))) + 2 ≤ 9223372036854775807) (.req (ByteArray.size ({ data := #[(32 : UInt8), (32 : UInt8)] } ++ bs (List.flatMap (fun (b : UInt8) => if b = (32 : UInt8) then blk false else [b]) (List.takeWhile (fun (x : UInt8) => x != (35 : UInt8)) (List.getD L (Int.toNat (↑x7.1 : Int)) []))) ++ { data := #[(32 : UInt8), (32 : UInt8)] }) + 2 ≤ 9223372036854775807) (.req (ByteArray.size ({ data := #[(32 : UInt8), (32 : UInt8)] } ++ bs (List.flatMap (fun (b : UInt8) => if b = (32 : UInt8) then blk false else [b]) (List.takeWhile (fun (x : UInt8) => x != (35 : UInt8)) (List.getD L (Int.toNat (↑x7.1 : Int)) []))) ++ { data := #[(32 : UInt8), (32 : UInt8)] } ++ { data := #[(35 : UInt8), (32 : UInt8)] }) + ByteArray.size (bs c) ≤ 9223372036854775807) (.req ((List.length (widLs false c (List.take (x7.1) L)) + 2) * 16 ≤ 140737488355328) (.again (Again (0) (fun (x : { x : Nat // x ≤ List.length L ∧ (fun (x : Nat) => True) x }) => mkSt [0, 1, 7, 40, 41, 8, 42] [AV.str (bs s), AV.str (bs c), AV.str { data := #[(32 : UInt8), (32 : UInt8)] }, AV.isl (1) (List.length L) fun (i x : Nat) => AV.str (bs (List.getD L i [])), Zi (↑(List.length L) : Int), AV.osl (0 : Nat) (1 : Nat) (0 : Nat) (List.length (widLs false c (List.take (x.1) L))), Zi (↑(x.1) : Int)] [some { es := (1 : Nat), n := List.length (widLs false c (List.take (x.1) L)), mu := true, f := Rep.row fun (i : Nat) => rowS (List.getD (widLs false c (List.take (x.1) L)) i []) }]) (fun (x : { x : Nat // x ≤ List.length L ∧ (fun (x : Nat) => True) x }) => List.length L - x.1) x7) ([0, 1, 7, 40, 41, 8, 42]) ([217]) ([AV.str (bs s), AV.str (bs c), AV.str { data := #[(32 : UInt8), (32 : UInt8)] }, AV.isl (1) (List.length L) fun (i x : Nat) => AV.str (bs (List.getD L i [])), Zi (↑(List.length L) : Int), AV.osl (0) (1) (0) (List.length (widLs false c (List.take (x7.1) L)) + 2), Zi (IntKind.wrap IntKind.i64 ((↑x7.1 : Int) + (1 : Int)))]) ([some { es := 1, n := List.length (widLs false c (List.take (x7.1) L)) + 2, mu := true, f := Rep.cat (List.length (widLs false c (List.take (x7.1) L))) (Rep.row fun (i : Nat) => [AV.str (bs (List.getD (widLs false c (List.take (x7.1) L)) i []))]) (Rep.lst [[AV.str ({ data := #[(35 : UInt8)] } ++ bs c)], [AV.str ({ data := #[(32 : UInt8), (32 : UInt8)] } ++ bs (List.flatMap (fun (b : UInt8) => if b = (32 : UInt8) then blk false else [b]) (List.takeWhile (fun (x : UInt8) => x != (35 : UInt8)) (List.getD L (Int.toNat (↑x7.1 : Int)) []))) ++ { data := #[(32 : UInt8), (32 : UInt8)] } ++ { data := #[(35 : UInt8), (32 : UInt8)] } ++ bs c)]]) }]))))))))))) (.sc (true) 27 ([AV.isl (1) (List.length (widLs false c (List.take (x7.1) L))) fun (r k : Nat) => atL [AV.str (bs (List.getD (widLs false c (List.take (x7.1) L)) (r + 0) []))] k, AV.str { data := #[(10 : UInt8)] }]) (AV.str (bs (join (widLs false c L) [(10 : UInt8)]))) (.br (decide ((↑(ByteArray.size (bs (join (widLs false c L) [(10 : UInt8)]))) : Int) > (16384 : Int))) (.out (AV.bool true) [] (AV.bool true) []) (.dc (true) 21 ([AV.str (bs s)]) (scA D) (.dc (true) 21 ([AV.str (bs (join (widLs false c L) [(10 : UInt8)]))]) (scA (Prod.fst D, (2 : Int) * Prod.fst (Prod.snd D), Prod.snd (Prod.snd D))) (.sc (true) 24 ([AV.isl (5) (List.length (Prod.fst D)) fun (i j : Nat) => atL (Cmd.cells (List.getD (Prod.fst D) i Cmd.zero)) j, AV.isl (5) (List.length (Prod.fst (Prod.fst D, (2 : Int) * Prod.fst (Prod.snd D), Prod.snd (Prod.snd D)))) fun (i j : Nat) => atL (Cmd.cells (List.getD (Prod.fst (Prod.fst D, (2 : Int) * Prod.fst (Prod.snd D), Prod.snd (Prod.snd D))) i Cmd.zero)) j]) (AV.bool true) (.out (AV.bool ((Prod.snd D).2 == (Prod.snd D).2 && (2 : Int) * (Prod.snd D).1 == IntKind.wrap IntKind.i64 ((2 : Int) * (Prod.snd D).1))) [] (AV.bool true) []))))))))))))))
    (by kernel_rfl) ?_
  refine k_sc (c0) ?_
  refine k_scg (fun h1 => c1 ((by simp at h1; omega))) ?_
  refine k_br (fun h2 => ?_) (fun h2 => ?_)
  · have g2 := (cnd_or_t (cnd_or_t cnd_dec_t cnd_dec_t) cnd_id_t) h2
    refine k_sc (c0) ?_
    exact k_out (Ent.of_eq (by first | rfl | simp_all))
  · have g2 := (cnd_or_f (cnd_or_f cnd_dec_f cnd_dec_f) cnd_id_f) h2
    refine k_ff ?_
    refine k_dc (c2 ((by first | exact blk_ok g2 | omega))) ?_
    refine k_loop (fun _ hs => hs.le (by repeat' (first | exact trivial | (first | exact Ent.refl _ | exact inc_ent (by omega) | exact Ent.nil rfl | exact Ent.of_eq (congrArg (AV.osl _ _ _) (by first | omega | (dsimp only; omega))) | exact Ent.of_eq (congrArg (AV.int _) (by first | omega | (dsimp only; omega)))) | refine And.intro ?_ ?_)) (by repeat' (first | exact trivial | (first | exact ObEnt.refl _ | exact ObEnt.junk | exact ObEnt.zero | exact ObEnt.push rfl rfl | exact ObEnt.pushRow rfl | exact ObEnt.len (by omega) | exact ObEnt.row (by repeat' (first | exact trivial | (first | exact Ent.refl _ | exact inc_ent (by omega) | exact Ent.nil rfl | exact Ent.of_eq (congrArg (AV.osl _ _ _) (by first | omega | (dsimp only; omega))) | exact Ent.of_eq (congrArg (AV.int _) (by first | omega | (dsimp only; omega)))) | refine And.intro ?_ ?_))) | refine And.intro ?_ ?_))) (fun x7 => ?_)
    try (have q7 := x7.2; dsimp only at q7)
    have e1 := wI (n := (x7.1 : Int) + 1) (by omega) (by omega); have e2 := wid_at false c (show x7.1 ≤ L.length from x7.2.1); have e3 := fun h : x7.1 + 1 ≤ L.length => wid_at false c h; have e4 := Nat.le_trans (wid_fl false (L.getD x7.1 [])) (Nat.mul_le_mul_left 2 (hL x7.1)); have e5 := wI (n := 2 * D.2.1) (by omega) (by omega)
    refine k_br (fun h8 => ?_) (fun h8 => ?_)
    · have g8 := cnd_dec_t h8
      refine k_req (by simp only [Int.toNat_natCast, ByteArray.size_append, z2, bs_size, List.length_cons, List.length_nil]; omega) ?_
      refine k_sc (c3 (Int.toNat (↑x7.1 : Int)) ((by first | exact blk_ok g2 | omega))) ?_
      refine k_req (by simp only [Int.toNat_natCast, ByteArray.size_append, z2, bs_size, List.length_cons, List.length_nil]; omega) ?_
      refine k_sc (c4 (Int.toNat (↑x7.1 : Int)) ((by first | exact blk_ok g2 | omega))) ?_
      refine k_req (by simp only [Int.toNat_natCast, ByteArray.size_append, z2, bs_size, List.length_cons, List.length_nil]; omega) ?_
      refine k_req (by simp only [Int.toNat_natCast, ByteArray.size_append, z2, bs_size, List.length_cons, List.length_nil]; omega) ?_
      refine k_req (by simp only [Int.toNat_natCast, ByteArray.size_append, z2, bs_size, List.length_cons, List.length_nil]; omega) ?_
      refine k_req (by simp only [Int.toNat_natCast, ByteArray.size_append, z2, bs_size, List.length_cons, List.length_nil]; omega) ?_
      refine k_req (by simp only [Int.toNat_natCast, ByteArray.size_append, z2, bs_size, List.length_cons, List.length_nil]; omega) ?_
      exact k_again (⟨x7.1 + 1, by omega, trivial⟩) (fun _ hs => hs.le (by repeat' (first | exact trivial | (first | exact Ent.refl _ | exact inc_ent (by omega) | exact Ent.nil rfl | exact Ent.of_eq (congrArg (AV.osl _ _ _) (by first | omega | (dsimp only; omega))) | exact Ent.of_eq (congrArg (AV.int _) (by first | omega | (dsimp only; omega)))) | refine And.intro ?_ ?_)) (⟨.pushA2 rowS [] (wrow_c c) (wrow_f c _) (widLs_snoc false c (by omega)), trivial⟩)) (by first | omega | (dsimp only; omega) | (simp; omega))
    · have g8 := cnd_dec_f h8
      refine k_sc (c5 (x7.1) ((by first | exact blk_ok g2 | omega)) ((by first | exact blk_ok g2 | omega))) ?_
      refine k_br (fun h20 => ?_) (fun h20 => ?_)
      · have g20 := cnd_dec_t h20
        exact k_out (Ent.of_eq (by first | rfl | simp_all))
      · have g20 := cnd_dec_f h20
        refine k_dc (c6 ((by first | exact blk_ok g2 | omega))) ?_
        refine k_dc (c7 ((by first | exact blk_ok g2 | omega)) ((by first | exact blk_ok g2 | omega))) ?_
        refine k_sc (c8) ?_
        exact k_out (Ent.of_eq (by first | rfl | simp_all))

theorem consoleBlanks_c (m : GP) (s c : Str) (T : Bool) : Pure Tryd.prog (gl0 m) 7 [.str (bs s), .str (bs c), .bool T] (.bool true) := by
  have hc : BlkOk c s → ∀ b ∈ c, b ≠ 10 := fun h b hb e => by
    subst e
    have := (contains_one 10 c).2 hb
    rw [h.2] at this; cases this
  have c6 : BlkOk c s → Pure Tryd.prog (gl0 m) 21 [.str (bs s)] (scA (scrF s)) := fun h => script_c m s (by have := h.1; omega)
  have c7 : ∀ t, BlkOk c s → ¬ ((bs (widS t c s)).size : Int) > 16384 → Pure Tryd.prog (gl0 m) 21 [.str (bs (widS t c s))] (scA ((scrF s).1, 2 * (scrF s).2.1, (scrF s).2.2)) := fun t h h2 => by
    rw [bs_size] at h2
    rw [← wid_scrF (t := t) (hc h) (by have := h.1; omega) (by omega)]
    exact script_c m (widS t c s) (by omega)
  have hw := fun t (h : BlkOk c s) => widS_len t h.1.2 h.1.1
  cases T with
  | true => exact blanks_t m c s (scrF s) (spl_len 10 s) (hw true) (scrF_bnd s) c6 (c7 true)
  | false => exact blanks_f m c s (scrF s) (spl_len 10 s) (hw false) (scrF_bnd s) c6 (c7 false)

end Go.Proofs.YtbmdmoknnlhdoaaDoor

namespace Go.Am
open Go Go.RowKit
section
variable {H : Type} {enc : TypeId × Value → H}
theorem returns_shaped {a : Assume} {C : Checked} {os : Os} {f : FuncId} {fn : Func} {s : ChangeSpec} {conds : List PathCond} {apart fresh handsOn again : Bool} {X : World → Array Value → Prop}
    (hX : ∀ (w w' : World) (args : Array Value), w.heap = w'.heap → X w args → X w' args)
    (own : ownKnob C.prog.godebug = none) (started : os.Started) (noInit : C.prog.inits.idxOf? f = none) (hfn : C.prog.funcs[f]? = some fn)
    (witness : ∃ (w : World) (tape : Tape) (i : Input), w.os = os ∧ (w.forCall tape i).Shaped C.prog ∧ i.vars = [] ∧ Input.okWide C.prog (w.forCall tape i) .any w.heap.size f i ∧
      ((s.pre enc C.prog fn conds apart (w.forCall tape i).memory i.args ∧ X (w.forCall tape i).memory i.args) ∧ sizedMet enc C.prog fn (OpenSpec.ofChange s) apart (w.forCall tape i).memory i.args) ∧ a.holds C.prog (lone (Frame.enter C.prog f i.args .normal) [] (w.forCall tape i)))
    (contract : ∀ (W : World) (base : Nat) (args : Array Value) (ds gs : List (DataW H)) (before : List MemPlace),
      (∀ (j : Nat) t v, fn.params[j]? = some t → args[j]? = some v → Value.okWide C.prog W .any base t v) →
      DataW.Whole enc C.prog fn.params.toList s.vars apart W args.toList ds gs before →
      conds.all (PathCond.test C.prog ⟨fn.params.toList, ds, s.plain.varTypes C.prog, gs⟩) = true →
      (DataW.weightsEach C.prog (fn.params.toList ++ s.plain.varTypes C.prog) (ds ++ gs)).all (· ≤ reachBytes) = true → X W args → W.ShapedOpen C.prog →
      a.holds C.prog (lone (Frame.enter C.prog f args .normal) [] W) →
      Calls C.prog f args W fun e W' => ∃ v, e = .returned v ∧ s.post enc C.prog fn apart fresh handsOn again W args v W') :
    ReturnsInHanded a C os f .any (fun w args => (s.pre enc C.prog fn conds apart w args ∧ X w args) ∧ sizedMet enc C.prog fn (OpenSpec.ofChange s) apart w args) (s.post enc C.prog fn apart fresh handsOn again) := by
  refine returnsInHanded_of_calls own started noInit witness ?_
  intro w tape i _ hsh _ hok hpre hholds
  obtain ⟨_, _, _, fn', hfn', _, _, _, _, hval⟩ := hok
  have e : fn' = fn := Option.some.inj (hfn'.symm.trans hfn)
  subst e
  obtain ⟨⟨⟨ds, gs, before, hw, hc⟩, hx⟩, hz⟩ := hpre
  have hw' := DataW.Whole.of_heap (w' := w.forCall tape i) (by rfl) hw
  refine (contract (w.forCall tape i) w.heap.size i.args ds gs before hval hw' hc (hz.weights hw) (hX _ _ _ (by rfl) hx) hsh hholds).mono fun e W' ⟨v, he, hp⟩ => ?_
  subst he
  exact ChangeSpec.post_blind hp
end
theorem glob_open {P : Program} {w : World} {β : Book} {g : Nat} {t : TypeId} {k : IntKind} (h : w.ShapedOpen P) (hg : g < P.globals.size) (h0 : ((begin P (fun _ _ => 0) default).world.heap[g]?).bind Obj.row? = some (#[.int k 0], t))
    (hb : P.buildable t = true) (hc : P.cellTypes P.depth t = some [t]) (hu : P.underlying t = some (.int k)) (hf : β.free g) : ∃ m, GlobAt β w g 1 fun _ => .int k m := by
  obtain ⟨m, hm⟩ := Go.Proofs.cell_of_shapedOpen_int h hg h0 rfl hb hc hu
  obtain ⟨cs, hh, hs, _⟩ := h.1 g _ t hg h0
  refine ⟨m, .ipt (fun _ => .int k m) (by decide) hf (fun j hj => ?_) (fun _ _ => rfl) (fun _ _ => .int) (fun _ _ => .int), t, ?_⟩
  · obtain rfl : j = 0 := Nat.lt_one_iff.1 hj
    exact hm
  · unfold World.shape?
    rw [hh]
    show some (t, cs.size) = some (t, 1)
    rw [hs]; rfl
end Go.Am
