/- Part of the proof: LL9, LL10, Cns8, LL11, Cns9, LL12, Cns10, LL13, LL14, LL15, Cns11, LL16, LL17, LL18, Cns12, LL20, EnShp. -/
import Derived.Test.YtbmdmoknnlhdoaaDoorM4
import Derived.Test.YtbmdmoknnlhdoaaDoorProg
import Derived.Test.YtbmdmoknnlhdoaaDoorM3
import Derived.Shelf.Strings.BuilderK
import Derived.HandedShaped
import Derived.Shelf.Vars
namespace Go.Proofs.YtbmdmoknnlhdoaaDoor
open Go Go.Am Go.Sp Go.Lib
set_option maxRecDepth 100000

theorem par_lin {a : Cmd} {ws : List Str} (h : Lin a ws) : prA (joinS ws) = .tup [.agg a.cells, .int .i64 0] := by
  have hl := lin_len h
  unfold prA parC parE
  rw [if_neg (by omega), if_neg (by omega), lin_spl h, readF_iff.2 h]; rfl

theorem awake_t (m : GP) : Pure Tryd.prog (gl0 m) 10 [.agg [.int .i64 4, .int .i64 2, .int .i64 1, .int .i64 0, .bool true]] (.tup [.str (bs [100, 101, 112, 111, 115, 105, 116, 32, 104, 111, 108, 100, 101, 114, 32, 50]), .int .i64 0]) := by
  have L2 : Lin ⟨4, 2, 1, 0, true⟩ [wDeposit, wHolder, itoa 2] := .holder ⟨by decide, by decide⟩
  have e2 : itoa 2 = [50] := itoa_d1 (n := 2) (by decide)
  have p2 := lin_text L2
  rw [e2] at p2
  have c2 := text_c m ⟨4, 2, 1, 0, true⟩ (lin_R L2)
  rw [p2, show joinS [wDeposit, wHolder, [50]] = [100, 101, 112, 111, 115, 105, 116, 32, 104, 111, 108, 100, 101, 114, 32, 50] by decide] at c2
  exact c2

theorem awake_c (m : GP) : Pure Tryd.prog (gl0 m) 8 [] (.bool true) := by
  have L1 : Lin ⟨2, 0, 1, 25, true⟩ [wPay, itoa 0, itoa 1, itoa 25] := .pay ⟨by decide, by decide⟩ ⟨by decide, by decide⟩ ⟨by decide, by decide⟩
  have e0 : itoa 0 = [48] := itoa_d1 (n := 0) (by decide)
  have e1 : itoa 1 = [49] := itoa_d1 (n := 1) (by decide)
  have e25 : itoa 25 = [50, 53] := itoa_d2 (n := 25) (by decide) (by decide)
  have p1 := par_lin L1
  rw [e0, e1, e25] at p1
  have c1 := parse_c m [112, 97, 121, 32, 48, 32, 49, 32, 50, 53] (by decide)
  rw [show [112, 97, 121, 32, 48, 32, 49, 32, 50, 53] = joinS [wPay, [48], [49], [50, 53]] by decide, p1] at c1
  rw [show joinS [wPay, [48], [49], [50, 53]] = [112, 97, 121, 32, 48, 32, 49, 32, 50, 53] by decide] at c1
  have c3 := awake_t m
  refine pure_sk (own := ow0) Tryd.func8 (by kernel_rfl) mixed (by kernel_rfl)
    (.sc (true) 9 ([AV.str { data := #[(112 : UInt8), (97 : UInt8), (121 : UInt8), (32 : UInt8), (48 : UInt8), (32 : UInt8), (49 : UInt8), (32 : UInt8), (50 : UInt8), (53 : UInt8)] }]) (AV.tup [AV.agg (Cmd.cells { kind := (2 : Int), who := (0 : Int), whom := (1 : Int), amount := (25 : Int), honest := true }), Zi 0]) (.sc (true) 10 ([AV.agg [Zi 4, Zi 2, Zi 1, Zi 0, AV.bool true]]) (AV.tup [AV.str (bs [(100 : UInt8), (101 : UInt8), (112 : UInt8), (111 : UInt8), (115 : UInt8), (105 : UInt8), (116 : UInt8), (32 : UInt8), (104 : UInt8), (111 : UInt8), (108 : UInt8), (100 : UInt8), (101 : UInt8), (114 : UInt8), (32 : UInt8), (50 : UInt8)]), Zi 0]) (.out (AV.bool true) [] (AV.bool true) [])))
    (by kernel_rfl) ?_
  refine k_sc (c1) ?_
  refine k_sc (c3) ?_
  exact k_out (Ent.of_eq (by first | rfl | simp_all))


end Go.Proofs.YtbmdmoknnlhdoaaDoor

namespace Go.Sp
open Go Go.Am Go.Lib
def blk (t : Bool) : Str := if t = true then [32, 9] else [32, 32]
end Go.Sp

namespace Go.Proofs.YtbmdmoknnlhdoaaDoor
open Go Go.Am Go.Sp Go.Lib Go.RowKit
set_option maxRecDepth 100000

theorem z2 (a b : UInt8) : (ByteArray.mk #[a, b]).size = 2 := rfl
end Go.Proofs.YtbmdmoknnlhdoaaDoor

namespace Go.Sp
open Go Go.Am Go.Lib
end Go.Sp

namespace Go.Proofs.YtbmdmoknnlhdoaaDoor
open Go Go.Am Go.Sp Go.Lib Go.RowKit
set_option maxRecDepth 100000

end Go.Proofs.YtbmdmoknnlhdoaaDoor

namespace Go.Sp
open Go Go.Am Go.Lib
end Go.Sp

namespace Go.Proofs.YtbmdmoknnlhdoaaDoor
open Go Go.Am Go.Sp Go.Lib Go.RowKit
set_option maxRecDepth 100000



end Go.Proofs.YtbmdmoknnlhdoaaDoor

namespace Go.Sp
open Go Go.Am Go.Lib
theorem dec_step {n : Nat} (h : 10 ≤ n) : decDigits n = decDigits (n / 10) ++ decDigits (n % 10) := by
  rw [decDigits_one (show n % 10 < 10 by omega)]
  conv => lhs; rw [decDigits, dif_neg (show ¬ n < 10 by omega)]
theorem tdiv_n (n k : Nat) : Int.tdiv (n : Int) (k : Int) = ((n / k : Nat) : Int) := by
  rw [Int.tdiv_eq_ediv_of_nonneg (Int.natCast_nonneg n)]; rfl
theorem tmod_n (n k : Nat) : Int.tmod (n : Int) (k : Int) = ((n % k : Nat) : Int) := by
  rw [Int.tmod_eq_emod_of_nonneg (Int.natCast_nonneg n)]; rfl
theorem dig_str {n : Nat} (h : n < 10) : strOfNums [IntKind.wrap .u8 (IntKind.wrap .i64 (48 + (n : Int)))] = bs (decDigits n) := by
  have e : IntKind.wrap .u8 (48 + (n : Int)) = ((48 + n : Nat) : Int) := by
    unfold IntKind.wrap; simp [IntKind.signed, IntKind.bits]; omega
  rw [wI (by omega) (by omega), e, decDigits_one h]; rfl
theorem dec_len : ∀ (k u : Nat), u < 10 ^ (k + 1) → (decDigits u).length ≤ k + 1
  | 0, u, h => by rw [decDigits_one (by omega)]; exact Nat.le_refl _
  | k + 1, u, h => by
    by_cases h1 : u < 10
    · rw [decDigits_one h1]; simp
    · rw [dec_step (by omega), List.length_append, decDigits_one (show u % 10 < 10 by omega)]
      have := dec_len k (u / 10) (by rw [Nat.pow_succ] at h; omega)
      simp; omega
theorem dec_len100 (u : Nat) (h : u < 9223372036854775807) : (decDigits u).length ≤ 100 := Nat.le_trans (dec_len 18 u (by omega)) (by decide)
theorem nDigits_le {u : Nat} (h : u < 9223372036854775807) : nDigits u ≤ 100 := by
  have k := dec_len100 u h
  rwa [decDigits_length] at k
theorem itoaN {n : Int} (h : 0 ≤ n) : itoa n = decDigits n.toNat := by
  obtain ⟨k, rfl⟩ := Int.eq_ofNat_of_zero_le h
  exact itoa_nonneg k
theorem itoa_l13 {n : Int} (h : 0 ≤ n ∧ n ≤ 1099511627776) : (itoa n).length ≤ 13 := by
  rw [itoaN h.1, decDigits_length]; exact nd_le (by omega)
end Go.Sp

namespace Go.Proofs.YtbmdmoknnlhdoaaDoor
open Go Go.Am Go.Sp Go.Lib Go.RowKit
set_option maxRecDepth 100000

theorem dec_1 (m : GP) (n : Nat) (hn : n < 10) : Pure Tryd.prog (gl0 m) 19 [.int .i64 (n : Int)] (.str (bs (decDigits n))) := by
  refine pure_sk (own := ow0) Tryd.func19 (by kernel_rfl) mixed (by kernel_rfl)
    (.br (decide ((↑n : Int) < (0 : Int))) (.br (decide ((↑n : Int) > (-10 : Int))) .no .no) (.br (decide ((↑n : Int) > (9 : Int))) .no (.out (AV.str (strOfNums [IntKind.wrap IntKind.u8 (IntKind.wrap IntKind.i64 ((48 : Int) + (↑n : Int)))])) [] (AV.str (bs (decDigits n))) [])))
    (by kernel_rfl) ?_
  refine k_br (fun h0 => ?_) (fun h0 => ?_)
  · have g0 := cnd_dec_t h0
    refine k_br (fun h1 => ?_) (fun h1 => ?_)
    · have g1 := cnd_dec_t h1
      exact (show False from (by exfalso; omega))
    · have g1 := cnd_dec_f h1
      exact (show False from (by exfalso; omega))
  · have g0 := cnd_dec_f h0
    refine k_br (fun h4 => ?_) (fun h4 => ?_)
    · have g4 := cnd_dec_t h4
      exact (show False from (by exfalso; omega))
    · have g4 := cnd_dec_f h4
      exact k_out ((by first | (exfalso; omega) | exact Ent.of_eq (congrArg AV.str (dig_str hn))))

theorem dec_2 (m : GP) (n : Nat) (hn : 10 ≤ n) (A B : Str) (hab : A ++ B = decDigits n) (hl : A.length ≤ 100 ∧ B.length ≤ 100) (c1 : Pure Tryd.prog (gl0 m) 19 [.int .i64 (IntKind.wrap IntKind.i64 (Int.tdiv (n : Int) (10 : Int)))] (.str (bs A))) (c2 : Pure Tryd.prog (gl0 m) 19 [.int .i64 (Int.tmod (n : Int) (10 : Int))] (.str (bs B))) :
    Pure Tryd.prog (gl0 m) 19 [.int .i64 (n : Int)] (.str (bs (decDigits n))) := by
  have za := bs_size A
  have zb := bs_size B
  refine pure_sk (own := ow0) Tryd.func19 (by kernel_rfl) mixed (by kernel_rfl)
    (.br (decide ((↑n : Int) < (0 : Int))) (.br (decide ((↑n : Int) > (-10 : Int))) .no .no) (.br (decide ((↑n : Int) > (9 : Int))) (.sc (true) 19 ([Zi (IntKind.wrap IntKind.i64 (Int.tdiv (↑n : Int) (10 : Int)))]) (AV.str (bs A)) (.sc (true) 19 ([Zi (Int.tmod (↑n : Int) (10 : Int))]) (AV.str (bs B)) (.req (ByteArray.size (bs A) + ByteArray.size (bs B) ≤ 9223372036854775807) (.out (AV.str (bs A ++ bs B)) [] (AV.str (bs (decDigits n))) [])))) (.out (AV.str (strOfNums [IntKind.wrap IntKind.u8 (IntKind.wrap IntKind.i64 ((48 : Int) + (↑n : Int)))])) [] (AV.str (bs (decDigits n))) [])))
    (by kernel_rfl) ?_
  refine k_br (fun h0 => ?_) (fun h0 => ?_)
  · have g0 := cnd_dec_t h0
    refine k_br (fun h1 => ?_) (fun h1 => ?_)
    · have g1 := cnd_dec_t h1
      exact (show False from (by exfalso; omega))
    · have g1 := cnd_dec_f h1
      exact (show False from (by exfalso; omega))
  · have g0 := cnd_dec_f h0
    refine k_br (fun h4 => ?_) (fun h4 => ?_)
    · have g4 := cnd_dec_t h4
      refine k_sc (c1) ?_
      refine k_sc (c2) ?_
      refine k_req (by first | omega | (simp only [Int.toNat_natCast]; omega)) ?_
      exact k_out ((by first | (exfalso; omega) | exact Ent.of_eq (congrArg AV.str (by rw [bs_app, hab]))))
    · have g4 := cnd_dec_f h4
      exact k_out ((by first | (exfalso; omega) | exact Ent.of_eq (congrArg AV.str (by rw [bs_app, hab]))))

theorem dec_c (m : GP) : ∀ (n : Nat), n < 9223372036854775807 → Pure Tryd.prog (gl0 m) 19 [.int .i64 (n : Int)] (.str (bs (decDigits n))) := fun n => by
  induction n using Nat.strongRecOn with
  | _ n ih =>
    intro hn
    by_cases h : n < 10
    · exact dec_1 m n h
    · have l1 := nDigits_le (show n / 10 < 9223372036854775807 by omega)
      have l2 := nDigits_le (show n % 10 < 9223372036854775807 by omega)
      refine dec_2 m n (by omega) (decDigits (n / 10)) (decDigits (n % 10)) (dec_step (by omega)).symm ⟨by rw [decDigits_length]; omega, by rw [decDigits_length]; omega⟩ ?_ ?_
      · rw [show Int.tdiv (n : Int) (10 : Int) = ((n / 10 : Nat) : Int) from tdiv_n n 10, wI (by omega) (by omega)]
        exact ih (n / 10) (by omega) (by omega)
      · rw [show Int.tmod (n : Int) (10 : Int) = ((n % 10 : Nat) : Int) from tmod_n n 10]
        exact ih (n % 10) (by omega) (by omega)

theorem deci_c (m : GP) (n : Int) (h : 0 ≤ n ∧ n ≤ 1099511627776) : Pure Tryd.prog (gl0 m) 19 [.int .i64 n] (.str (bs (itoa n))) := by
  have := dec_c m n.toNat (by omega)
  rw [itoaN h.1]
  rwa [Int.toNat_of_nonneg h.1] at this

end Go.Proofs.YtbmdmoknnlhdoaaDoor

namespace Go.Proofs.YtbmdmoknnlhdoaaDoor
open Go Go.Am Go.Sp Go.Lib Go.RowKit Go.Shelf
set_option maxRecDepth 100000

def helpN (k : Nat) : Str := (List.range k).flatMap fun i => FW i ++ [10]

def frmC (n : Nat) : Value := match n % 3 with
  | 0 => .int .i64 (FM (n / 3)).kind
  | 1 => .string (bs (FW (n / 3)))
  | _ => .int .i64 (FM (n / 3)).whom
theorem forms_w (w : World) : Calls Tryd.prog 29 #[] w fun e w' => e = .returned (.slice (some ⟨w.heap.size, 0, none⟩) 9 9) ∧ w' = w.alloc (.cells ((List.range 27).map frmC).toArray 59) := by
  go_enter Tryd.func29, Tryd.ntmps29
  go_wp2
  go_ret
  refine ⟨rfl, ?_⟩
  rfl

theorem frm_0 (k : Nat) : frmC (k * 3) = .int .i64 (FM k).kind := by
  unfold frmC; rw [show k * 3 % 3 = 0 by omega, show k * 3 / 3 = k by omega]; rfl
theorem frm_1 (k : Nat) : frmC (k * 3 + 1) = .string (bs (FW k)) := by
  unfold frmC; rw [show (k * 3 + 1) % 3 = 1 by omega, show (k * 3 + 1) / 3 = k by omega]; rfl
theorem frm_2 (k : Nat) : frmC (k * 3 + 2) = .int .i64 (FM k).whom := by
  unfold frmC; rw [show (k * 3 + 2) % 3 = 2 by omega, show (k * 3 + 2) / 3 = k by omega]; rfl
theorem frm_at {w : World} {b n : Nat} (h : w.heap[b]? = some (.cells ((List.range 27).map frmC).toArray 59)) (hn : n < 27) : w.cell? ⟨b, n, none⟩ = some (frmC n) := by
  rw [cell_of_heap h]
  simp [hn]
theorem alloc2_blk (w : World) (o : Obj) (cs : Array Value) (t : TypeId) : ((w.alloc o).alloc (.cells cs t)).heap[w.heap.size + 1]? = some (.cells cs t (0, 0)) := by
  have := alloc_blk (w := w.alloc o) (cs := cs) (t := t)
  have e : (w.alloc o).heap.size = w.heap.size + 1 := by simp
  rwa [e] at this
theorem help_le {k : Nat} (h : k ≤ 9) : (helpN k).length ≤ 1000 := by
  have : k = 0 ∨ k = 1 ∨ k = 2 ∨ k = 3 ∨ k = 4 ∨ k = 5 ∨ k = 6 ∨ k = 7 ∨ k = 8 ∨ k = 9 := by omega
  rcases this with rfl | rfl | rfl | rfl | rfl | rfl | rfl | rfl | rfl | rfl <;> decide
theorem FW_le {k : Nat} (h : k < 9) : (FW k).length ≤ 100 := by
  have : k = 0 ∨ k = 1 ∨ k = 2 ∨ k = 3 ∨ k = 4 ∨ k = 5 ∨ k = 6 ∨ k = 7 ∨ k = 8 := by omega
  rcases this with rfl | rfl | rfl | rfl | rfl | rfl | rfl | rfl | rfl <;> decide
theorem help_snoc (k : Nat) : helpN (k + 1) = helpN k ++ (FW k ++ [10]) := by
  unfold helpN; rw [List.range_succ, List.flatMap_append]; simp
theorem ws_k (B b : Nat) (bs : List Value) (s : ByteArray) (w : World) (h : IsBuilderF 65 5 B b bs w) (hlen : bs.length + s.size ≤ 140737488355328) (hBw : B ≤ w.heap.size) :
    Calls Tryd.prog 34 #[.pointer (some ⟨b, 0, none⟩), .string s] w fun e w' => e = .returned (.tuple #[.int .i64 s.size, .nilIface]) ∧ (BuilderAtF 65 5 B b (.pointer (some ⟨b, 0, none⟩)) (bs ++ strCells s) w' ∧ Below B w w' ∧ OthersKept 5 (some b) w w') :=
  Any.Builder_WriteString_k { Tryd.lays156 with } Tryd.Builder_Extra_156 B b bs s w h hlen hBw
theorem st_k (B b : Nat) (l : List UInt8) (w : World) (h : IsBuilderF 65 5 B b (Lib.byteCells l) w) (hBw : B ≤ w.heap.size) :
    Calls Tryd.prog 35 #[.pointer (some ⟨b, 0, none⟩)] w fun e w' => e = .returned (.string ⟨l.toArray⟩) ∧ (IsBuilderF 65 5 B b (Lib.byteCells l) w' ∧ Below B w w' ∧ OthersKept 5 (some b) w w') :=
  Any.Builder_String_any_k { Tryd.lays156 with } Tryd.Builder_Extra_156 B b l w h hBw

theorem round_k (w wr : World) (o : Obj) (cs : Array Value) (F A A' : Str) (hA : A' = A ++ (F ++ [10])) (hlA : A.length ≤ 1000) (hlF : F.length ≤ 100)
    (HB : IsBuilderF 65 5 w.heap.size w.heap.size (Lib.byteCells A) wr) (HW : Below w.heap.size w wr) (HC : wr.heap[w.heap.size + 1]? = some (.cells cs 59)) :
    Calls Tryd.prog 34 #[.pointer (some ⟨w.heap.size, 0, none⟩), .string (bs F ++ ⟨#[10]⟩)] (wr.alloc o) fun e w3 => e = .returned (.tuple #[.int .i64 (bs F ++ ⟨#[10]⟩).size, .nilIface]) ∧ IsBuilderF 65 5 w.heap.size w.heap.size (Lib.byteCells A') w3 ∧ Below w.heap.size w w3 ∧ w3.heap[w.heap.size + 1]? = some (.cells cs 59) := by
  have hbk : w.heap.size ≤ wr.heap.size := HW.size
  have hlt : w.heap.size + 1 < wr.heap.size := by
    rcases Nat.lt_or_ge (w.heap.size + 1) wr.heap.size with h' | h'
    · exact h'
    · rw [Array.getElem?_eq_none h'] at HC; cases HC
  have hsz : (wr.alloc o).heap.size = wr.heap.size + 1 := by simp
  have e0 : bs F ++ ⟨#[10]⟩ = bs (F ++ [10]) := bs_app F [10]
  have e3 : Lib.byteCells A ++ strCells (bs (F ++ [10])) = Lib.byteCells A' := by
    rw [hA, Lib.byteCells_append, Lib.strCells_eq, bs_data]
  rw [e0]
  refine (ws_k w.heap.size w.heap.size (Lib.byteCells A) (bs (F ++ [10])) (wr.alloc o) (HB.alloc o) (by rw [Lib.byteCells_length, bs_size, List.length_append, List.length_singleton]; omega) (by rw [hsz]; omega)).mono ?_
  rintro e w3 ⟨he, h3, hb3, hk3⟩
  rw [e3] at h3
  refine ⟨he, .inr h3, (HW.alloc hbk o).trans hb3, hk3 (w.heap.size + 1) _ (by rw [Below.heap_alloc _ _ _ hlt]; exact HC) (fun h => absurd (Option.some.inj h) (Nat.succ_ne_self _)) (fun c fz e => by simp only [Obj.cells.injEq] at e; exact absurd e.2.1 (by decide))⟩


set_option maxHeartbeats 400000 in
theorem help_w (w : World) : Calls Tryd.prog 12 #[] w fun e w' => e = .returned (.string (bs (helpN 9))) ∧ Below w.heap.size w w' := by
  go_enter Tryd.func12, Tryd.ntmps12
  go_wp2_with fail
  refine (forms_w _).mono ?_
  rintro e w1 ⟨rfl, rfl⟩
  have H0 : Hid (IsBuilderF 65 5 w.heap.size w.heap.size (Lib.byteCells (helpN 0)) ((w.alloc (.cells #[.pointer none, .slice none 0 0] 65)).alloc (.cells ((List.range 27).map frmC).toArray 59))) := Any.hidJ ((IsBuilderF.of (fresh_isBuilder 65 5 w)).alloc _)
  have HW0 : Hid (Below w.heap.size w ((w.alloc (.cells #[.pointer none, .slice none 0 0] 65)).alloc (.cells ((List.range 27).map frmC).toArray 59))) := Any.hidJ (((Below.refl _ _).alloc (Nat.le_refl _) _).alloc (by simp) _)
  have HC0 : Hid (((w.alloc (.cells #[.pointer none, .slice none 0 0] 65)).alloc (.cells ((List.range 27).map frmC).toArray 59)).heap[w.heap.size + 1]? = some (.cells ((List.range 27).map frmC).toArray 59)) := Any.hidJ (alloc2_blk _ _ _ _)
  generalize (w.alloc (.cells #[.pointer none, .slice none 0 0] 65)).alloc (.cells ((List.range 27).map frmC).toArray 59) = w0 at H0 HW0 HC0 ⊢
  go_wp2_with fail
  go_loopw [6] (fun i wr => ∃ k : Nat, k ≤ 9 ∧ i = .int .i64 k ∧ Hid (IsBuilderF 65 5 w.heap.size w.heap.size (Lib.byteCells (helpN k)) wr) ∧ Hid (Below w.heap.size w wr) ∧ Hid (wr.heap[w.heap.size + 1]? = some (.cells ((List.range 27).map frmC).toArray 59))) (fun i _ => 9 - (RowKit.intOf i).toNat)
  case atStart => exact ⟨0, Nat.zero_le _, rfl, H0, HW0, HC0⟩
  case round =>
    obtain ⟨k, hk, rfl, HB, HW, HC⟩ := hrel
    by_cases hk9 : k < 9
    · have hc0 := frm_at HC.out (show k * 3 < 27 by omega)
      have hc1 := frm_at HC.out (show k * 3 + 1 < 27 by omega)
      have hc2 := frm_at HC.out (show k * 3 + 2 < 27 by omega)
      rw [frm_0] at hc0
      rw [frm_1] at hc1
      rw [frm_2] at hc2
      have hl := FW_le hk9
      have zl := bs_size (FW k)
      go_wp2_with fail
      refine (round_k w wr _ _ (FW k) (helpN k) (helpN (k + 1)) (help_snoc k) (help_le hk) hl HB.out HW.out HC.out).mono ?_
      rintro e w3 ⟨rfl, h3, hb3, hc3⟩
      have H3 := Any.hidJ h3
      have HW3 := Any.hidJ hb3
      have HC3 := Any.hidJ hc3
      clear h3 hb3 hc3
      go_wp2
      exact ⟨⟨k + 1, by omega, by go_num, H3, HW3, HC3⟩, by simp [RowKit.intOf]; omega⟩
    · obtain rfl : k = 9 := by omega
      go_wp2_with fail
      refine (st_k w.heap.size w.heap.size (helpN 9) wr HB.out HW.out.size).mono ?_
      rintro e w5 ⟨rfl, _, hb5, _⟩
      have Hb5 := Any.hidJ (HW.out.trans hb5)
      clear hb5
      go_wp2
      go_ret
      exact ⟨rfl, Hb5.out⟩

theorem help_c (m : GP) : Pure Tryd.prog (gl0 m) 12 [] (.str (bs (helpN 9))) := by
  refine pure_of ⟨_, _, Tryd.func12, rfl, by kernel_rfl⟩ fun β w vs hf hg ha => ?_
  obtain rfl : vs = #[] := by
    have := ha.len
    match vs, this with
    | ⟨[]⟩, _ => rfl
  refine (help_w w).mono fun e w' hh => ?_
  obtain ⟨he, hb⟩ := hh
  exact ⟨_, he, hb, .str⟩

end Go.Proofs.YtbmdmoknnlhdoaaDoor

namespace Go.Sp
open Go.Lib

def repF (o n : Str) : Nat → Str → Str
  | 0, s => s
  | _ + 1, [] => []
  | k + 1, b :: l => if o.isPrefixOf (b :: l) then n ++ repF o n k ((b :: l).drop o.length) else b :: repF o n k l
theorem idx_hit {o s : Str} (h : o.isPrefixOf s = true) : index s o = 0 :=
  index_first (i := 0) (Nat.zero_le _) (by simpa [occAt] using h) (fun j hj => absurd hj (Nat.not_lt_zero j))
theorem idx_skip {o l : Str} {b : UInt8} (h : o.isPrefixOf (b :: l) = false) : index (b :: l) o = if index l o = -1 then -1 else index l o + 1 := by
  rw [index, if_neg (by simp [h])]
  by_cases k : index l o = -1
  · rw [if_pos (by simpa using k), if_pos k]
  · rw [if_neg (by simpa using k), if_neg k]
theorem cnt_skip {o l : Str} {b : UInt8} (ho : o ≠ []) (h : o.isPrefixOf (b :: l) = false) : count (b :: l) o = count l o := by
  have e := idx_skip h
  have g := index_ge l o
  by_cases k : index l o = -1
  · rw [if_pos k] at e
    rw [count_miss e, count_miss k]
  · rw [if_neg k] at e
    have h1 : index l o = ((index l o).toNat : Int) := by omega
    have h2 : index (b :: l) o = (((index l o).toNat + 1 : Nat) : Int) := by omega
    rw [count_hit ho h1, count_hit ho h2, show (index l o).toNat + 1 + o.length = ((index l o).toNat + o.length) + 1 by omega, List.drop_succ_cons]
theorem replaceK_rep {o n : Str} (ho : o ≠ []) : ∀ (k : Nat) (s : Str), s.length ≤ k → replaceK o n (count s o) s = repF o n k s
  | 0, s, h => by
    obtain rfl := List.length_eq_zero_iff.1 (Nat.le_zero.1 h)
    have : index [] o = -1 := index_none fun j hj => by
      obtain rfl := Nat.le_zero.1 hj
      cases o with
      | nil => exact absurd rfl ho
      | cons a t => rfl
    rw [count_miss this]; rfl
  | k + 1, [], h => by
    have : index [] o = -1 := index_none fun j hj => by
      obtain rfl := Nat.le_zero.1 hj
      cases o with
      | nil => exact absurd rfl ho
      | cons a t => rfl
    rw [count_miss this]; rfl
  | k + 1, b :: l, h => by
    unfold repF
    by_cases hp : o.isPrefixOf (b :: l) = true
    · have hl : 0 < o.length := List.length_pos_iff.2 ho
      rw [if_pos hp, count_hit (i := 0) ho (idx_hit hp), Nat.add_comm, replaceK_hit o n _ _ 0 (idx_hit hp), Nat.zero_add, List.take_zero, List.nil_append,
        replaceK_rep ho k _ (by rw [List.length_drop]; simp only [List.length_cons] at h ⊢; omega)]
    · have hp : o.isPrefixOf (b :: l) = false := Bool.not_eq_true _ ▸ hp
      rw [if_neg (by simp [hp]), cnt_skip ho hp, ← replaceK_rep ho k l (by simpa using h)]
      cases c : count l o with
      | zero => rfl
      | succ m =>
        obtain ⟨i, hi⟩ := index_of_count (s := l) (old := o) (by omega)
        have h2 : index (b :: l) o = ((i + 1 : Nat) : Int) := by rw [idx_skip hp, if_neg (by omega), hi]; rfl
        rw [replaceK_hit o n m _ _ h2, replaceK_hit o n m _ _ hi, show i + 1 + o.length = (i + o.length) + 1 by omega]
        rfl
theorem replaceAll_rep {o n : Str} (ho : o ≠ []) (hn : o ≠ n) {s : Str} (k : Nat) (hk : s.length ≤ k) : replaceAll s o n = repF o n k s := by
  unfold replaceAll replace
  rw [if_neg (by simpa using hn)]
  unfold replaceNum
  rw [if_pos (.inl (by decide))]
  exact replaceK_rep ho k s hk
theorem rep_app {c : UInt8} {o n : Str} {r : Str} : ∀ {D : Str} (k : Nat), (∀ b ∈ D, b ≠ c) → repF (c :: o) n (D.length + k) (D ++ r) = D ++ repF (c :: o) n k r
  | [], k, _ => by rw [List.length_nil, Nat.zero_add]; rfl
  | d :: D, k, h => by
    rw [List.length_cons, show D.length + 1 + k = (D.length + k) + 1 by omega]
    show repF (c :: o) n (D.length + k + 1) (d :: (D ++ r)) = d :: (D ++ repF (c :: o) n k r)
    rw [repF]
    have : (c :: o).isPrefixOf (d :: (D ++ r)) = false := by
      show (c == d && _) = false
      rw [beq_false_of_ne (Ne.symm (h d List.mem_cons_self)), Bool.false_and]
    rw [if_neg (by simp [this]), rep_app k fun b hb => h b (List.mem_cons_of_mem _ hb)]
def jn : List Str → Str
  | [] => []
  | [w] => w
  | w :: v :: r => w ++ 32 :: jn (v :: r)
theorem jn_eq : ∀ (ws : List Str), joinS ws = jn ws
  | [] => rfl
  | [w] => join_one w [32]
  | w :: v :: r => by rw [joinS_cons, jn_eq (v :: r)]; rfl
def wdH (x y z : Str) : Nat → List Str
  | 0 => [wWithdraw, x, z]
  | 1 => [wPay, x, y, z]
  | 2 => [wTransfer, x, y, z]
  | 3 => [wDeposit, wMerchant, x]
  | 4 => [wDeposit, wHolder, x]
  | 5 => [wDouble, x, y, z]
  | 6 => [wTrace, x]
  | 7 => [wClear]
  | _ => [wTick, z]
def ln (x y z : Str) (i : Nat) : Str := jn (wdH x y z i)
def digs (s : Str) : Prop := ∀ b ∈ s, 48 ≤ b.toNat ∧ b.toNat ≤ 57
theorem digs_ne {s : Str} (h : digs s) {c : UInt8} (hc : 57 < c.toNat) : ∀ b ∈ s, b ≠ c := fun b hb e => by
  subst e; have := (h b hb).2; omega
theorem cases9 {i : Nat} (h : i < 9) : i = 0 ∨ i = 1 ∨ i = 2 ∨ i = 3 ∨ i = 4 ∨ i = 5 ∨ i = 6 ∨ i = 7 ∨ i = 8 := by omega
theorem rep_m (y : Str) {i : Nat} (hi : i < 9) : repF wWhom y 100 (ln wWho wWhom wAmount i) = ln wWho y wAmount i := by
  rcases cases9 hi with rfl | rfl | rfl | rfl | rfl | rfl | rfl | rfl | rfl <;> rfl
theorem rep_w (x y : Str) (hy : digs y) {i : Nat} (hi : i < 9) : repF wWho x (y.length + 100) (ln wWho y wAmount i) = ln x y wAmount i := by
  have key : ∀ (k : Nat), repF wWho x (y.length + (k + 20)) (y ++ 32 :: wAmount) = y ++ 32 :: wAmount := fun k => by
    rw [show wWho = 87 :: [72, 79] from rfl, rep_app _ (digs_ne hy (by decide))]; rfl
  rcases cases9 hi with rfl | rfl | rfl | rfl | rfl | rfl | rfl | rfl | rfl
  · rfl
  · exact congrArg (fun t => wPay ++ 32 :: (x ++ 32 :: t)) (key 74)
  · exact congrArg (fun t => wTransfer ++ 32 :: (x ++ 32 :: t)) (key 69)
  · exact congrArg (fun t => wDeposit ++ 32 :: (wMerchant ++ 32 :: t)) (List.append_nil x)
  · exact congrArg (fun t => wDeposit ++ 32 :: (wHolder ++ 32 :: t)) (List.append_nil x)
  · exact congrArg (fun t => wDouble ++ 32 :: (x ++ 32 :: t)) (key 71)
  · exact congrArg (fun t => wTrace ++ 32 :: t) (List.append_nil x)
  · rfl
  · rfl
theorem rep_a (x y z : Str) (hx : digs x) (hy : digs y) {i : Nat} (hi : i < 9) : repF wAmount z (x.length + (y.length + 100)) (ln x y wAmount i) = ln x y z i := by
  have e : wAmount = 65 :: [77, 79, 85, 78, 84] := rfl
  have key : ∀ (k : Nat), repF wAmount z (x.length + (y.length + (k + 20))) (x ++ 32 :: (y ++ 32 :: wAmount)) = x ++ 32 :: (y ++ 32 :: z) := fun k => by
    rw [e, rep_app _ (digs_ne hx (by decide))]
    show x ++ 32 :: repF (65 :: [77, 79, 85, 78, 84]) z (y.length + (k + 19)) (y ++ 32 :: wAmount) = _
    rw [rep_app _ (digs_ne hy (by decide))]
    show x ++ 32 :: (y ++ 32 :: (z ++ [])) = _
    rw [List.append_nil]
  have k2 : ∀ (k : Nat), repF wAmount z (x.length + (y.length + (k + 20))) (x ++ 32 :: wAmount) = x ++ 32 :: z := fun k => by
    rw [e, rep_app _ (digs_ne hx (by decide))]
    show x ++ 32 :: (z ++ []) = _
    rw [List.append_nil]
  have k3 : ∀ (k : Nat), repF wAmount z (x.length + (y.length + (k + 1))) x = x := fun k => by
    have := rep_app (c := 65) (o := [77, 79, 85, 78, 84]) (n := z) (r := []) (D := x) (y.length + (k + 1)) (digs_ne hx (by decide))
    rw [List.append_nil] at this
    rw [e, this]; exact List.append_nil x
  rcases cases9 hi with rfl | rfl | rfl | rfl | rfl | rfl | rfl | rfl | rfl
  · exact congrArg (fun t => wWithdraw ++ 32 :: t) (k2 71)
  · exact congrArg (fun t => wPay ++ 32 :: t) (key 76)
  · exact congrArg (fun t => wTransfer ++ 32 :: t) (key 71)
  · exact congrArg (fun t => wDeposit ++ 32 :: (wMerchant ++ 32 :: t)) (k3 82)
  · exact congrArg (fun t => wDeposit ++ 32 :: (wHolder ++ 32 :: t)) (k3 84)
  · exact congrArg (fun t => wDouble ++ 32 :: t) (key 73)
  · exact congrArg (fun t => wTrace ++ 32 :: t) (k3 93)
  · rfl
  · show wTick ++ 32 :: (z ++ []) = _
    rw [List.append_nil]; rfl
def cmH (x y z : Int) : Nat → Cmd
  | 0 => ⟨1, x, 0, z, true⟩
  | 1 => ⟨2, x, y, z, true⟩
  | 2 => ⟨3, x, y, z, true⟩
  | 3 => ⟨4, x, 0, 0, true⟩
  | 4 => ⟨4, x, 1, 0, true⟩
  | 5 => ⟨5, x, y, z, false⟩
  | 6 => ⟨6, x, 0, 0, true⟩
  | 7 => ⟨7, 0, 0, 0, true⟩
  | _ => ⟨8, 0, 0, z, true⟩
theorem lin_h {x y z : Int} (hx : okN x) (hy : okN y) (hz : okN z) {i : Nat} (hi : i < 9) : Lin (cmH x y z i) (wdH (itoa x) (itoa y) (itoa z) i) := by
  rcases cases9 hi with rfl | rfl | rfl | rfl | rfl | rfl | rfl | rfl | rfl
  · exact .withdraw hx hz
  · exact .pay hx hy hz
  · exact .transfer hx hy hz
  · exact .merchant hx
  · exact .holder hx
  · exact .double hx hy hz
  · exact .trace hx
  · exact .clear
  · exact .tick hz
theorem ln_len {x y z : Str} {n : Nat} (hx : x.length ≤ n) (hy : y.length ≤ n) (hz : z.length ≤ n) {i : Nat} (hi : i < 9) : (ln x y z i).length ≤ 20 + 3 * n := by
  rcases cases9 hi with rfl | rfl | rfl | rfl | rfl | rfl | rfl | rfl | rfl <;> simp only [ln, wdH, jn, List.length_append, List.length_cons] <;> simp only [wWithdraw, wPay, wTransfer, wDeposit, wMerchant, wHolder, wDouble, wTrace, wClear, wTick, List.length_cons, List.length_nil] <;> omega
theorem spl_ln {x y z : Int} (hx : okN x) (hy : okN y) (hz : okN z) {i : Nat} (hi : i < 9) : readF (spl 32 (ln (itoa x) (itoa y) (itoa z) i)) = some (cmH x y z i) := by
  have h := lin_h hx hy hz hi
  have k := lin_ok h
  rw [ln, ← jn_eq, spl_joinS k.1 fun w hw b hb => (k.2 w hw).2 b hb |>.1]
  exact readF_iff.2 h
end Go.Sp

namespace Go.Proofs.YtbmdmoknnlhdoaaDoor
open Go Go.Am Go.Sp Go.Lib Go.RowKit
set_option maxRecDepth 100000

def kinC (K : List Int) (i : Nat) : List AV := [AV.int .i64 (K.getD i 0)]
theorem equalK_c (m : GP) (K : List Int) : Pure Tryd.prog (gl0 m) 20 [.isl 1 9 fun r k => atL (kinC K r) k, .isl 1 9 fun r k => atL (kinC K r) k] (.bool true) := by
  refine pure_sk (own := ow0) Tryd.func20 (by kernel_rfl) mixed (by kernel_rfl)
    (.ff (.loop ({ x : Nat // x ≤ (9 : Nat) }) (fun (x : { x : Nat // x ≤ (9 : Nat) }) => mkSt [0, 1, 12, 13] [AV.isl (1) (9) fun (r k : Nat) => atL (kinC K r) k, AV.isl (1) (9) fun (r k : Nat) => atL (kinC K r) k, Zi (↑(9) : Int), Zi (↑(x.1) : Int)] []) (fun (x : { x : Nat // x ≤ (9 : Nat) }) => (9 : Nat) - x.1) (⟨(0 : Nat), Nat.zero_le (9 : Nat)⟩) ([0, 1, 12, 13]) ([]) ([AV.isl (1) (9) fun (r k : Nat) => atL (kinC K r) k, AV.isl (1) (9) fun (r k : Nat) => atL (kinC K r) k, Zi (↑(9) : Int), Zi 0]) ([]) (fun x1 => (.br (decide ((↑x1.1 : Int) < (↑(9) : Int))) (.req ((0 : Int) ≤ (↑x1.1 : Int) ∧ (↑x1.1 : Int) < (↑(9) : Int)) (.req ((0 : Int) ≤ (↑x1.1 : Int) ∧ (↑x1.1 : Int) < (↑(9) : Int)) (.br (List.getD K (Int.toNat (↑x1.1 : Int)) (0 : Int) != List.getD K (Int.toNat (↑x1.1 : Int)) (0 : Int)) (.out (AV.bool false) [] (AV.bool true) []) (.again (Again (0) (fun (x : { x : Nat // x ≤ (9 : Nat) }) => mkSt [0, 1, 12, 13] [AV.isl (1) (9) fun (r k : Nat) => atL (kinC K r) k, AV.isl (1) (9) fun (r k : Nat) => atL (kinC K r) k, Zi (↑(9) : Int), Zi (↑(x.1) : Int)] []) (fun (x : { x : Nat // x ≤ (9 : Nat) }) => (9 : Nat) - x.1) x1) ([0, 1, 12, 13]) ([]) ([AV.isl (1) (9) fun (r k : Nat) => atL (kinC K r) k, AV.isl (1) (9) fun (r k : Nat) => atL (kinC K r) k, Zi (↑(9) : Int), Zi (IntKind.wrap IntKind.i64 ((↑x1.1 : Int) + (1 : Int)))]) ([]))))) (.out (AV.bool true) [] (AV.bool true) [])))))
    (by kernel_rfl) ?_
  refine k_ff ?_
  refine k_loop (fun _ hs => hs.le (by repeat' (first | exact trivial | (first | exact Ent.refl _ | exact inc_ent (by omega) | exact Ent.nil rfl | exact Ent.of_eq (congrArg (AV.osl _ _ _) (by first | omega | (dsimp only; omega))) | exact Ent.of_eq (congrArg (AV.int _) (by first | omega | (dsimp only; omega)))) | refine And.intro ?_ ?_)) (trivial)) (fun x1 => ?_)
  try (have q1 := x1.2; dsimp only at q1)
  refine k_br (fun h2 => ?_) (fun h2 => ?_)
  · have g2 := cnd_dec_t h2
    refine k_req (by first | omega | (simp only [Int.toNat_natCast]; omega)) ?_
    refine k_req (by first | omega | (simp only [Int.toNat_natCast]; omega)) ?_
    refine k_br (fun h5 => ?_) (fun h5 => ?_)
    · have g5 := cnd_bne_t h5
      try simp only [Int.toNat_natCast] at g5
      exact k_out (Ent.of_eq (by first | rfl | simp_all))
    · have g5 := cnd_bne_f h5
      try simp only [Int.toNat_natCast] at g5
      exact k_again (⟨x1.1 + 1, by omega⟩) (fun _ hs => hs.le (by repeat' (first | exact trivial | (first | exact Ent.refl _ | exact inc_ent (by omega) | exact Ent.nil rfl | exact Ent.of_eq (congrArg (AV.osl _ _ _) (by first | omega | (dsimp only; omega))) | exact Ent.of_eq (congrArg (AV.int _) (by first | omega | (dsimp only; omega)))) | refine And.intro ?_ ?_)) (trivial)) (by first | omega | (dsimp only; omega) | (simp; omega))
  · have g2 := cnd_dec_f h2
    exact k_out (Ent.of_eq (by first | rfl | simp_all))
theorem equalI_c (m : GP) (x : Nat) (K : List Int) (hK : K = [1, 2, 3, 4, 4, 5, 6, 7, 8]) (hx : x = 9) : Pure Tryd.prog (gl0 m) 20 [.isl 1 x fun r k => atL (kinC K (r + 0)) k, .isl 1 9 fun r k => atL (List.getD [[AV.int .i64 1], [AV.int .i64 2], [AV.int .i64 3], [AV.int .i64 4], [AV.int .i64 4], [AV.int .i64 5], [AV.int .i64 6], [AV.int .i64 7], [AV.int .i64 8]] r []) k] (.bool true) := by
  subst hx
  have c := equalK_c m K
  subst hK
  refine c.via ⟨Ent.refl _, Ent.isl fun i j hi hj => ?_, trivial⟩
  obtain rfl : j = 0 := Nat.lt_one_iff.1 hj
  rcases cases9 hi with rfl | rfl | rfl | rfl | rfl | rfl | rfl | rfl | rfl <;> rfl

theorem helps_1 (m : GP) (who whom amount : Int) (x y z H T : Str) (L0 L1 L2 L3 : Nat → Str) (F1 F2 F3 : Nat → Int) (K : List Int) (hK : K = [1, 2, 3, 4, 4, 5, 6, 7, 8])
    (c1 : Pure Tryd.prog (gl0 m) 12 [] (.str (bs H)))
    (c2 : Pure Tryd.prog (gl0 m) 17 [.str (bs H), .str (bs [10])] (.str (bs T)))
    (c3 : Pure Tryd.prog (gl0 m) 16 [.str (bs T), .str (bs [10])] (.isl 1 9 fun i _ => .str (bs (L0 i))))
    (d1 : Pure Tryd.prog (gl0 m) 19 [.int .i64 (IntKind.wrap .i64 who)] (.str (bs x)))
    (d2 : Pure Tryd.prog (gl0 m) 19 [.int .i64 (IntKind.wrap .i64 whom)] (.str (bs y)))
    (d3 : Pure Tryd.prog (gl0 m) 19 [.int .i64 (IntKind.wrap .i64 amount)] (.str (bs z)))
    (r1 : ∀ i, i < 9 → Pure Tryd.prog (gl0 m) 18 [.str (bs (L0 i)), .str (bs wWhom), .str (bs y)] (.str (bs (L1 i))))
    (r2 : ∀ i, i < 9 → Pure Tryd.prog (gl0 m) 18 [.str (bs (L1 i)), .str (bs wWho), .str (bs x)] (.str (bs (L2 i))))
    (r3 : ∀ i, i < 9 → Pure Tryd.prog (gl0 m) 18 [.str (bs (L2 i)), .str (bs wAmount), .str (bs z)] (.str (bs (L3 i))))
    (p : ∀ i, i < 9 → Pure Tryd.prog (gl0 m) 9 [.str (bs (L3 i))] (.tup [.agg [.int .i64 (K.getD i 0), .int .i64 (F1 i), .int .i64 (F2 i), .int .i64 (F3 i), .bool (K.getD i 0 != 5)], .int .i64 0])) :
    Pure Tryd.prog (gl0 m) 4 [.int .u32 who, .int .u32 whom, .int .u32 amount] (.bool true) := by
  have c0 := awake_c m
  have c9 := fun x h => equalI_c m x K hK h
  refine pure_sk (own := ow0) Tryd.func4 (by kernel_rfl) mixed (by kernel_rfl)
    (.sc (true) 8 ([]) (AV.bool true) (.ff (.sc (true) 12 ([]) (AV.str (bs H)) (.sc (true) 17 ([AV.str (bs H), AV.str { data := #[(10 : UInt8)] }]) (AV.str (bs T)) (.dc (true) 16 ([AV.str (bs T), AV.str { data := #[(10 : UInt8)] }]) (AV.isl (1 : Nat) (9 : Nat) fun (i x : Nat) => AV.str (bs (L0 i))) (.loop ({ x : Nat // x ≤ (9 : Nat) }) (fun (x : { x : Nat // x ≤ (9 : Nat) }) => mkSt [0, 1, 2, 18, 19, 8, 20] [Zw who, Zw whom, Zw amount, AV.isl (1) (9) fun (i x : Nat) => AV.str (bs (L0 i)), Zi (↑(9) : Int), AV.osl (0 : Nat) (1 : Nat) (0 : Nat) (x.1), Zi (↑(x.1) : Int)] [some { es := (1 : Nat), n := x.1, mu := true, f := Rep.row fun (i : Nat) => kinC K i }]) (fun (x : { x : Nat // x ≤ (9 : Nat) }) => (9 : Nat) - x.1) (⟨(0 : Nat), Nat.zero_le (9 : Nat)⟩) ([0, 1, 2, 18, 19, 8, 20]) ([344]) ([Zw who, Zw whom, Zw amount, AV.isl (1) (9) fun (i x : Nat) => AV.str (bs (L0 i)), Zi (↑(9) : Int), AV.nsl, Zi 0]) ([some { es := 1, n := 0, mu := true, f := Rep.lst [] }]) (fun x5 => (.br (decide ((↑x5.1 : Int) < (↑(9) : Int))) (.req ((0 : Int) ≤ (↑x5.1 : Int) ∧ (↑x5.1 : Int) < (↑(9) : Int)) (.sc (true) 19 ([Zi (IntKind.wrap IntKind.i64 whom)]) (AV.str (bs y)) (.sc (true) 18 ([AV.str (bs (L0 (Int.toNat (↑x5.1 : Int)))), AV.str { data := #[(87 : UInt8), (72 : UInt8), (79 : UInt8), (77 : UInt8)] }, AV.str (bs y)]) (AV.str (bs (L1 (Int.toNat (↑x5.1 : Int))))) (.sc (true) 19 ([Zi (IntKind.wrap IntKind.i64 who)]) (AV.str (bs x)) (.sc (true) 18 ([AV.str (bs (L1 (Int.toNat (↑x5.1 : Int)))), AV.str { data := #[(87 : UInt8), (72 : UInt8), (79 : UInt8)] }, AV.str (bs x)]) (AV.str (bs (L2 (Int.toNat (↑x5.1 : Int))))) (.sc (true) 19 ([Zi (IntKind.wrap IntKind.i64 amount)]) (AV.str (bs z)) (.sc (true) 18 ([AV.str (bs (L2 (Int.toNat (↑x5.1 : Int)))), AV.str { data := #[(65 : UInt8), (77 : UInt8), (79 : UInt8), (85 : UInt8), (78 : UInt8), (84 : UInt8)] }, AV.str (bs z)]) (AV.str (bs (L3 (Int.toNat (↑x5.1 : Int))))) (.sc (true) 9 ([AV.str (bs (L3 (Int.toNat (↑x5.1 : Int))))]) (AV.tup [AV.agg [Zi (List.getD K (Int.toNat (↑x5.1 : Int)) (0 : Int)), Zi (F1 (Int.toNat (↑x5.1 : Int))), Zi (F2 (Int.toNat (↑x5.1 : Int))), Zi (F3 (Int.toNat (↑x5.1 : Int))), AV.bool (List.getD K (Int.toNat (↑x5.1 : Int)) (0 : Int) != (5 : Int))], Zi 0]) (.br (!(List.getD K (Int.toNat (↑x5.1 : Int)) (0 : Int) != (5 : Int)) == (List.getD K (Int.toNat (↑x5.1 : Int)) (0 : Int) != (5 : Int))) (.out (AV.bool false) [] (AV.bool true) []) (.req ((x5.1 + 1) * 8 ≤ 140737488355328) (.again (Again (0) (fun (x : { x : Nat // x ≤ (9 : Nat) }) => mkSt [0, 1, 2, 18, 19, 8, 20] [Zw who, Zw whom, Zw amount, AV.isl (1) (9) fun (i x : Nat) => AV.str (bs (L0 i)), Zi (↑(9) : Int), AV.osl (0 : Nat) (1 : Nat) (0 : Nat) (x.1), Zi (↑(x.1) : Int)] [some { es := (1 : Nat), n := x.1, mu := true, f := Rep.row fun (i : Nat) => kinC K i }]) (fun (x : { x : Nat // x ≤ (9 : Nat) }) => (9 : Nat) - x.1) x5) ([0, 1, 2, 18, 19, 8, 20]) ([353]) ([Zw who, Zw whom, Zw amount, AV.isl (1) (9) fun (i x : Nat) => AV.str (bs (L0 i)), Zi (↑(9) : Int), AV.osl (0) (1) (0) (x5.1 + 1), Zi (IntKind.wrap IntKind.i64 ((↑x5.1 : Int) + (1 : Int)))]) ([some { es := 1, n := x5.1 + 1, mu := true, f := Rep.cat x5.1 (Rep.row fun (i : Nat) => [Zi (List.getD K i (0 : Int))]) (Rep.lst [[Zi (List.getD K (Int.toNat (↑x5.1 : Int)) (0 : Int))]]) }])))))))))))) (.sc (true) 20 ([AV.isl (1) x5.1 fun (r k : Nat) => atL [Zi (List.getD K (r + 0) (0 : Int))] k, AV.isl (1) (9) fun (r k : Nat) => atL (List.getD [[Zi 1], [Zi 2], [Zi 3], [Zi 4], [Zi 4], [Zi 5], [Zi 6], [Zi 7], [Zi 8]] (r + 0) []) k]) (AV.bool true) (.out (AV.bool true) [] (AV.bool true) []))))))))))
    (by kernel_rfl) ?_
  refine k_sc (c0) ?_
  refine k_ff ?_
  refine k_sc (c1) ?_
  refine k_sc (c2) ?_
  refine k_dc (c3) ?_
  refine k_loop (fun _ hs => hs.le (by repeat' (first | exact trivial | (first | exact Ent.refl _ | exact inc_ent (by omega) | exact Ent.nil rfl | exact Ent.of_eq (congrArg (AV.osl _ _ _) (by first | omega | (dsimp only; omega))) | exact Ent.of_eq (congrArg (AV.int _) (by first | omega | (dsimp only; omega)))) | refine And.intro ?_ ?_)) (by repeat' (first | exact trivial | (first | exact ObEnt.refl _ | exact ObEnt.junk | exact ObEnt.zero | exact ObEnt.push rfl rfl | exact ObEnt.pushRow rfl | exact ObEnt.len (by omega) | exact ObEnt.row (by repeat' (first | exact trivial | (first | exact Ent.refl _ | exact inc_ent (by omega) | exact Ent.nil rfl | exact Ent.of_eq (congrArg (AV.osl _ _ _) (by first | omega | (dsimp only; omega))) | exact Ent.of_eq (congrArg (AV.int _) (by first | omega | (dsimp only; omega)))) | refine And.intro ?_ ?_))) | refine And.intro ?_ ?_))) (fun x5 => ?_)
  try (have q5 := x5.2; dsimp only at q5)
  refine k_br (fun h6 => ?_) (fun h6 => ?_)
  · have g6 := cnd_dec_t h6
    refine k_req (by first | omega | (simp only [Int.toNat_natCast]; omega)) ?_
    refine k_sc (d2) ?_
    refine k_sc (r1 (Int.toNat (↑x5.1 : Int)) (by first | assumption | omega)) ?_
    refine k_sc (d1) ?_
    refine k_sc (r2 (Int.toNat (↑x5.1 : Int)) (by first | assumption | omega)) ?_
    refine k_sc (d3) ?_
    refine k_sc (r3 (Int.toNat (↑x5.1 : Int)) (by first | assumption | omega)) ?_
    refine k_sc (p (Int.toNat (↑x5.1 : Int)) (by first | assumption | omega)) ?_
    refine k_br (fun h15 => ?_) (fun h15 => ?_)
    · have g15 := (cnd_not_t cnd_id_f) h15
      try simp only [Int.toNat_natCast] at g15
      exact k_out (Ent.of_eq (by first | rfl | simp_all))
    · have g15 := (cnd_not_f cnd_id_t) h15
      try simp only [Int.toNat_natCast] at g15
      refine k_req (by first | omega | (simp only [Int.toNat_natCast]; omega)) ?_
      exact k_again (⟨x5.1 + 1, by omega⟩) (fun _ hs => hs.le (by repeat' (first | exact trivial | (first | exact Ent.refl _ | exact inc_ent (by omega) | exact Ent.nil rfl | exact Ent.of_eq (congrArg (AV.osl _ _ _) (by first | omega | (dsimp only; omega))) | exact Ent.of_eq (congrArg (AV.int _) (by first | omega | (dsimp only; omega)))) | refine And.intro ?_ ?_)) (by repeat' (first | exact trivial | (first | exact ObEnt.refl _ | exact ObEnt.junk | exact ObEnt.zero | exact ObEnt.push rfl rfl | exact ObEnt.pushRow rfl | exact ObEnt.len (by omega) | exact ObEnt.row (by repeat' (first | exact trivial | (first | exact Ent.refl _ | exact inc_ent (by omega) | exact Ent.nil rfl | exact Ent.of_eq (congrArg (AV.osl _ _ _) (by first | omega | (dsimp only; omega))) | exact Ent.of_eq (congrArg (AV.int _) (by first | omega | (dsimp only; omega)))) | refine And.intro ?_ ?_))) | refine And.intro ?_ ?_))) (by first | omega | (dsimp only; omega) | (simp; omega))
  · have g6 := cnd_dec_f h6
    refine k_sc (c9 (x5.1) (by first | assumption | omega)) ?_
    exact k_out (Ent.of_eq (by first | rfl | simp_all))

theorem ln_help : spl 10 (trimSuffix (helpN 9) [10]) = (List.range 9).map (ln wWho wWhom wAmount) := by decide
theorem rep_c (m : GP) (o n s r : Str) (k : Nat) (ho : o.length = 3 ∨ o.length = 4 ∨ o.length = 6) (hn : o ≠ n) (hs : s.length ≤ 100) (hl : n.length ≤ 20) (hk : 100 ≤ k) (h : repF o n k s = r) : Pure Tryd.prog (gl0 m) 18 [.str (bs s), .str (bs o), .str (bs n)] (.str (bs r)) := by
  have c := replace_c m s o n (by omega) (by omega) (by
    have h1 := count_le s o
    have : count s o * n.length ≤ 101 * 20 := Nat.mul_le_mul (by omega) hl
    omega)
  rw [replaceAll_rep (by rintro rfl; simp at ho) hn k (by omega), h] at c
  exact c
theorem digs_itoa {n : Int} (h : 0 ≤ n) : digs (itoa n) := itoa_byte h
theorem ne_itoa {n : Int} (h : 0 ≤ n) {o : Str} {c : UInt8} (hc : c ∈ o) (h2 : 57 < c.toNat) : o ≠ itoa n := fun e => by
  subst e
  have := itoa_byte h c hc
  omega
theorem consoleHelp_c (m : GP) (a b c : Int) (ha : 0 ≤ a ∧ a ≤ 4294967295) (hb : 0 ≤ b ∧ b ≤ 4294967295) (hc : 0 ≤ c ∧ c ≤ 4294967295) : Pure Tryd.prog (gl0 m) 4 [.int .u32 a, .int .u32 b, .int .u32 c] (.bool true) := by
  have oa : okN a := ⟨ha.1, by omega⟩
  have ob : okN b := ⟨hb.1, by omega⟩
  have oc : okN c := ⟨hc.1, by omega⟩
  have la := itoa_l13 oa
  have lb := itoa_l13 ob
  have lc := itoa_l13 oc
  have k3 := split_c m 10 (trimSuffix (helpN 9) [10]) (by decide)
  rw [ln_help] at k3
  have e3 : (fun (i _ : Nat) => AV.str (bs (((List.range 9).map (ln wWho wWhom wAmount)).getD i []))) = fun i _ => AV.str (bs (if i < 9 then ln wWho wWhom wAmount i else [])) := by
    funext i _
    by_cases h : i < 9
    · rw [if_pos h]; simp [List.getD_eq_getElem?_getD, h]
    · rw [if_neg h]; simp [List.getD_eq_getElem?_getD, h]
  rw [e3, List.length_map, List.length_range] at k3
  have w0 : ∀ n : Int, 0 ≤ n ∧ n ≤ 4294967295 → IntKind.wrap .i64 n = n := fun n h => by
    have := wI (n := n) (by omega) (by omega)
    exact this
  have d1 := deci_c m a oa
  have d2 := deci_c m b ob
  have d3 := deci_c m c oc
  refine helps_1 m a b c (itoa a) (itoa b) (itoa c) (helpN 9) (trimSuffix (helpN 9) [10]) (fun i => if i < 9 then ln wWho wWhom wAmount i else []) (fun i => ln wWho (itoa b) wAmount i) (fun i => ln (itoa a) (itoa b) wAmount i) (fun i => ln (itoa a) (itoa b) (itoa c) i)
    (fun i => (cmH a b c i).who) (fun i => (cmH a b c i).whom) (fun i => (cmH a b c i).amount) _ rfl (help_c m) (trimSuffix_c m (helpN 9) [10] (by decide)) k3 ?_ ?_ ?_ (fun i hi => ?_) (fun i hi => ?_) (fun i hi => ?_) (fun i hi => ?_)
  · rw [w0 a ha]; exact d1
  · rw [w0 b hb]; exact d2
  · rw [w0 c hc]; exact d3
  · rw [if_pos hi]
    exact rep_c m wWhom (itoa b) _ _ 100 (.inr (.inl rfl)) (ne_itoa hb.1 (c := 87) (by decide) (by decide)) (Nat.le_trans (ln_len (n := 6) (by decide) (by decide) (by decide) hi) (by decide)) (by omega) (Nat.le_refl _) (rep_m _ hi)
  · exact rep_c m wWho (itoa a) _ _ _ (.inl rfl) (ne_itoa ha.1 (c := 87) (by decide) (by decide)) (Nat.le_trans (ln_len (n := 13) (by decide) lb (by decide) hi) (by decide)) (by omega) (by omega) (rep_w _ _ (digs_itoa hb.1) hi)
  · exact rep_c m wAmount (itoa c) _ _ _ (.inr (.inr rfl)) (ne_itoa hc.1 (c := 65) (by decide) (by decide)) (Nat.le_trans (ln_len (n := 13) la lb (by decide) hi) (by decide)) (by omega) (by omega) (rep_a _ _ _ (digs_itoa ha.1) (digs_itoa hb.1) hi)
  · have hl : (ln (itoa a) (itoa b) (itoa c) i).length ≤ 59 := ln_len (n := 13) la lb lc hi
    have p := parse_c m (ln (itoa a) (itoa b) (itoa c) i) (by omega)
    unfold prA parC parE at p
    rw [if_neg (by omega), if_neg (by omega), spl_ln oa ob oc hi] at p
    have e : Cmd.cells (Option.getD (some (cmH a b c i)) .zero) = [.int .i64 (List.getD [1, 2, 3, 4, 4, 5, 6, 7, 8] i 0), .int .i64 (cmH a b c i).who, .int .i64 (cmH a b c i).whom, .int .i64 (cmH a b c i).amount, .bool (List.getD [1, 2, 3, 4, 4, 5, 6, 7, 8] i 0 != (5 : Int))] := by
      rcases cases9 hi with rfl | rfl | rfl | rfl | rfl | rfl | rfl | rfl | rfl <;> rfl
    rw [e] at p
    exact p
theorem cell_U {a : AV} (h : CellOk (.int .u32) a) : 0 ≤ intOfAV a ∧ intOfAV a ≤ 4294967295 := by
  obtain ⟨h1, h2⟩ := (Lit.wf_int_iff _ _).1 h.int_inv
  exact ⟨Int.le_trans (by decide) h1, Int.le_trans h2 (by decide)⟩

end Go.Proofs.YtbmdmoknnlhdoaaDoor

namespace Go.Am
open Go Go.RowKit
section
variable {H : Type} {enc : TypeId × Value → H}
theorem returns_shaped {a : Assume} {C : Checked} {os : Os} {f : FuncId} {fn : Func} {s : ChangeSpec} {conds : List PathCond} {apart fresh handsOn again : Bool} {X : World → Array Value → Prop}
    (hX : ∀ (w w' : World) (args : Array Value), w.heap = w'.heap → X w args → X w' args)
    (own : ownKnob C.prog.godebug = none) (started : os.Started) (noInit : C.prog.inits.idxOf? f = none) (hfn : C.prog.funcs[f]? = some fn)
    (witness : ∃ (w : World) (tape : Tape) (i : Input), w.os = os ∧ (w.forCall tape i).Shaped C.prog ∧ i.vars = [] ∧ Input.okWide C.prog (w.forCall tape i) .any w.heap.size f i ∧
      ((s.pre enc C.prog fn conds apart (w.forCall tape i).memory i.args ∧ X (w.forCall tape i).memory i.args) ∧ sizedMet enc C.prog fn (OpenSpec.ofChange s) apart (w.forCall tape i).memory i.args) ∧ a.holds C.prog (lone (Frame.enter C.prog f i.args .normal) [] (w.forCall tape i)))
    (contract : ∀ (W : World) (base : Nat) (args : Array Value) (ds gs : List (DataW H)) (before : List MemPlace),
      (∀ (j : Nat) t v, fn.params[j]? = some t → args[j]? = some v → Value.okWide C.prog W .any base t v) →
      DataW.Whole enc C.prog fn.params.toList s.vars apart W args.toList ds gs before →
      conds.all (PathCond.test C.prog ⟨fn.params.toList, ds, s.plain.varTypes C.prog, gs⟩) = true →
      (DataW.weightsEach C.prog (fn.params.toList ++ s.plain.varTypes C.prog) (ds ++ gs)).all (· ≤ reachBytes) = true → X W args → W.ShapedOpen C.prog →
      a.holds C.prog (lone (Frame.enter C.prog f args .normal) [] W) →
      Calls C.prog f args W fun e W' => ∃ v, e = .returned v ∧ s.post enc C.prog fn apart fresh handsOn again W args v W') :
    ReturnsInHanded a C os f .any (fun w args => (s.pre enc C.prog fn conds apart w args ∧ X w args) ∧ sizedMet enc C.prog fn (OpenSpec.ofChange s) apart w args) (s.post enc C.prog fn apart fresh handsOn again) := by
  refine returnsInHanded_of_calls own started noInit witness ?_
  intro w tape i _ hsh _ hok hpre hholds
  obtain ⟨_, _, _, fn', hfn', _, _, _, _, hval⟩ := hok
  have e : fn' = fn := Option.some.inj (hfn'.symm.trans hfn)
  subst e
  obtain ⟨⟨⟨ds, gs, before, hw, hc⟩, hx⟩, hz⟩ := hpre
  have hw' := DataW.Whole.of_heap (w' := w.forCall tape i) (by rfl) hw
  refine (contract (w.forCall tape i) w.heap.size i.args ds gs before hval hw' hc (hz.weights hw) (hX _ _ _ (by rfl) hx) hsh hholds).mono fun e W' ⟨v, he, hp⟩ => ?_
  subst he
  exact ChangeSpec.post_blind hp
end
theorem glob_open {P : Program} {w : World} {β : Book} {g : Nat} {t : TypeId} {k : IntKind} (h : w.ShapedOpen P) (hg : g < P.globals.size) (h0 : ((begin P (fun _ _ => 0) default).world.heap[g]?).bind Obj.row? = some (#[.int k 0], t))
    (hb : P.buildable t = true) (hc : P.cellTypes P.depth t = some [t]) (hu : P.underlying t = some (.int k)) (hf : β.free g) : ∃ m, GlobAt β w g 1 fun _ => .int k m := by
  obtain ⟨m, hm⟩ := Go.Proofs.cell_of_shapedOpen_int h hg h0 rfl hb hc hu
  obtain ⟨cs, hh, hs, _⟩ := h.1 g _ t hg h0
  refine ⟨m, .ipt (fun _ => .int k m) (by decide) hf (fun j hj => ?_) (fun _ _ => rfl) (fun _ _ => .int) (fun _ _ => .int), t, ?_⟩
  · obtain rfl : j = 0 := Nat.lt_one_iff.1 hj
    exact hm
  · unfold World.shape?
    rw [hh]
    show some (t, cs.size) = some (t, 1)
    rw [hs]; rfl
end Go.Am
