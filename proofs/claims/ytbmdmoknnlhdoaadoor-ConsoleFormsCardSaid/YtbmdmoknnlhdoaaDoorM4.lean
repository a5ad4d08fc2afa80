/- Part of the proof: LL3, LL4, LL5, LL6, LL7, LL8, LL9, LL10, Cns8, LL11, Cns9, LL12. -/
import Derived.Test.YtbmdmoknnlhdoaaDoorM3
import Derived.Test.YtbmdmoknnlhdoaaDoorProg
namespace Go.Proofs.YtbmdmoknnlhdoaaDoor
open Go Go.Am Go.Sp Go.Lib
set_option maxRecDepth 100000

theorem fd (w : Str) (h : (w != wWho && w != wWhom && w != wAmount) = true) : w ≠ wWho ∧ w ≠ wWhom ∧ w ≠ wAmount := by
  simp only [Bool.and_eq_true, bne_iff_ne] at h; exact ⟨h.1.1, h.1.2, h.2⟩
theorem getD_len {ws : List Str} {k n : Nat} (h : ∀ w ∈ ws, w.length ≤ n) : (ws.getD k []).length ≤ n := by
  rw [List.getD_eq_getElem?_getD]
  cases e : ws[k]? with
  | none => exact Nat.zero_le _
  | some x => exact h x (List.mem_of_getElem? e)
theorem rowsE (l : List Str) : ∀ i, i < l.length → (Rep.lst (l.map fun w => [AV.str (bs w)])).at i 0 = .str (bs (l.getD i [])) := fun i hi => by
  show atL ((l.map fun w => [AV.str (bs w)]).getD i []) 0 = _
  simp [List.getD_eq_getElem?_getD, hi, atL]
def wlA (ws : List Str) : AV := .isl 1 ws.length fun i _ => .str (bs (ws.getD i []))

def wf0 : Str := [119, 105, 116, 104, 100, 114, 97, 119, 32, 87, 72, 79, 32, 65, 77, 79, 85, 78, 84]
theorem fields_0 (m : GP) : Gives Tryd.prog (gl0 m) 46 [] [.str (bs wf0)] (.osl 0 1 0 3) [some ⟨1, 3, true, .lst [[.str (bs wWithdraw)], [.str (bs wWho)], [.str (bs wAmount)]]⟩] :=
  fields_g m wf0 [wWithdraw, wWho, wAmount] _ (by decide) (by decide) (by decide +kernel) (rowsE _)
def wf1 : Str := [112, 97, 121, 32, 87, 72, 79, 32, 87, 72, 79, 77, 32, 65, 77, 79, 85, 78, 84]
theorem fields_1 (m : GP) : Gives Tryd.prog (gl0 m) 46 [] [.str (bs wf1)] (.osl 0 1 0 4) [some ⟨1, 4, true, .lst [[.str (bs wPay)], [.str (bs wWho)], [.str (bs wWhom)], [.str (bs wAmount)]]⟩] :=
  fields_g m wf1 [wPay, wWho, wWhom, wAmount] _ (by decide) (by decide) (by decide +kernel) (rowsE _)
def wf2 : Str := [116, 114, 97, 110, 115, 102, 101, 114, 32, 87, 72, 79, 32, 87, 72, 79, 77, 32, 65, 77, 79, 85, 78, 84]
theorem fields_2 (m : GP) : Gives Tryd.prog (gl0 m) 46 [] [.str (bs wf2)] (.osl 0 1 0 4) [some ⟨1, 4, true, .lst [[.str (bs wTransfer)], [.str (bs wWho)], [.str (bs wWhom)], [.str (bs wAmount)]]⟩] :=
  fields_g m wf2 [wTransfer, wWho, wWhom, wAmount] _ (by decide) (by decide) (by decide +kernel) (rowsE _)
def wf3 : Str := [100, 101, 112, 111, 115, 105, 116, 32, 109, 101, 114, 99, 104, 97, 110, 116, 32, 87, 72, 79]
theorem fields_3 (m : GP) : Gives Tryd.prog (gl0 m) 46 [] [.str (bs wf3)] (.osl 0 1 0 3) [some ⟨1, 3, true, .lst [[.str (bs wDeposit)], [.str (bs wMerchant)], [.str (bs wWho)]]⟩] :=
  fields_g m wf3 [wDeposit, wMerchant, wWho] _ (by decide) (by decide) (by decide +kernel) (rowsE _)
def wf4 : Str := [100, 101, 112, 111, 115, 105, 116, 32, 104, 111, 108, 100, 101, 114, 32, 87, 72, 79]
theorem fields_4 (m : GP) : Gives Tryd.prog (gl0 m) 46 [] [.str (bs wf4)] (.osl 0 1 0 3) [some ⟨1, 3, true, .lst [[.str (bs wDeposit)], [.str (bs wHolder)], [.str (bs wWho)]]⟩] :=
  fields_g m wf4 [wDeposit, wHolder, wWho] _ (by decide) (by decide) (by decide +kernel) (rowsE _)
def wf5 : Str := [100, 111, 117, 98, 108, 101, 32, 87, 72, 79, 32, 87, 72, 79, 77, 32, 65, 77, 79, 85, 78, 84]
theorem fields_5 (m : GP) : Gives Tryd.prog (gl0 m) 46 [] [.str (bs wf5)] (.osl 0 1 0 4) [some ⟨1, 4, true, .lst [[.str (bs wDouble)], [.str (bs wWho)], [.str (bs wWhom)], [.str (bs wAmount)]]⟩] :=
  fields_g m wf5 [wDouble, wWho, wWhom, wAmount] _ (by decide) (by decide) (by decide +kernel) (rowsE _)
def wf6 : Str := [116, 114, 97, 99, 101, 32, 87, 72, 79]
theorem fields_6 (m : GP) : Gives Tryd.prog (gl0 m) 46 [] [.str (bs wf6)] (.osl 0 1 0 2) [some ⟨1, 2, true, .lst [[.str (bs wTrace)], [.str (bs wWho)]]⟩] :=
  fields_g m wf6 [wTrace, wWho] _ (by decide) (by decide) (by decide +kernel) (rowsE _)
def wf7 : Str := [99, 108, 101, 97, 114]
theorem fields_7 (m : GP) : Gives Tryd.prog (gl0 m) 46 [] [.str (bs wf7)] (.osl 0 1 0 1) [some ⟨1, 1, true, .lst [[.str (bs wClear)]]⟩] :=
  fields_g m wf7 [wClear] _ (by decide) (by decide) (by decide +kernel) (rowsE _)
def wf8 : Str := [116, 105, 99, 107, 32, 65, 77, 79, 85, 78, 84]
theorem fields_8 (m : GP) : Gives Tryd.prog (gl0 m) 46 [] [.str (bs wf8)] (.osl 0 1 0 2) [some ⟨1, 2, true, .lst [[.str (bs wTick)], [.str (bs wAmount)]]⟩] :=
  fields_g m wf8 [wTick, wAmount] _ (by decide) (by decide) (by decide +kernel) (rowsE _)

theorem match_0 (m : GP) (ws : List Str) (hw : ∀ w ∈ ws, w.length ≤ 281474976710656) (hn : ws.length < 9223372036854775808) : Pure Tryd.prog (gl0 m) 31 [.agg [.int .i64 1, .str (bs wf0), .int .i64 0], wlA ws] (.tup [.agg (Cmd.cells ((matchF ⟨1, [wWithdraw, wWho, wAmount], 0⟩ ws).getD .zero)), .bool (matchF ⟨1, [wWithdraw, wWho, wAmount], 0⟩ ws).isSome]) := by
  have c0 := fields_0 m
  have f0 := fun c0 c1 c2 c3 c4 => field_0 m c0 c1 c2 c3 c4 wWithdraw (fd _ (by decide)).1 (fd _ (by decide)).2.1 (fd _ (by decide)).2.2
  have n1 := number_c m (ws.getD 1 []) (getD_len hw)
  have n2 := number_c m (ws.getD 2 []) (getD_len hw)
  refine pure_sk (own := (owM 5)) Tryd.func31 (by kernel_rfl) mixed (by kernel_rfl)
    (.gc 46 ([]) ([AV.str (bs wf0)]) (AV.osl (0 : Nat) (1 : Nat) (0 : Nat) (3 : Nat)) ([some { es := (1 : Nat), n := (3 : Nat), mu := true, f := Rep.lst [[AV.str (bs wWithdraw)], [AV.str (bs wWho)], [AV.str (bs wAmount)]] }]) (.br ((↑(List.length ws) : Int) != (↑(3) : Int)) (.out (AV.tup [AV.agg [Zi 0, Zi 0, Zi 0, Zi 0, AV.bool false], AV.bool false]) [] (AV.tup [AV.agg (Cmd.cells (Option.getD (matchF { kind := (1 : Int), ws := [wWithdraw, wWho, wAmount], whom := (0 : Int) } ws) Cmd.zero)), AV.bool (Option.isSome (matchF { kind := (1 : Int), ws := [wWithdraw, wWho, wAmount], whom := (0 : Int) } ws))]) []) (.tt (.req ((0 : Int) ≤ (0 : Int) ∧ (0 : Int) < (↑(3) : Int)) (.gc 47 ([{ es := 5, n := 1, mu := true, f := Rep.lst [[Zi 1, Zi 0, Zi 0, Zi 0, AV.bool true]] }]) ([AV.own (0) (5) (0) (0) (5), AV.str (bs wWithdraw)]) (AV.raw (Value.pointer none)) ([some { es := (5 : Nat), n := (1 : Nat), mu := true, f := Rep.lst [[Zi 1, Zi 0, Zi 0, Zi 0, AV.bool true]] }]) (.tt (.req ((0 : Int) ≤ (0 : Int) ∧ (0 : Int) < (↑(List.length ws) : Int)) (.br (!ByteArray.toList (bs (List.getD ws (Int.toNat (0 : Int)) [])) == ByteArray.toList (bs wWithdraw)) (.out (AV.tup [AV.agg [Zi 0, Zi 0, Zi 0, Zi 0, AV.bool false], AV.bool false]) [] (AV.tup [AV.agg (Cmd.cells (Option.getD (matchF { kind := (1 : Int), ws := [wWithdraw, wWho, wAmount], whom := (0 : Int) } ws) Cmd.zero)), AV.bool (Option.isSome (matchF { kind := (1 : Int), ws := [wWithdraw, wWho, wAmount], whom := (0 : Int) } ws))]) []) (.tt (.req ((0 : Int) ≤ IntKind.wrap IntKind.i64 ((0 : Int) + (1 : Int)) ∧ IntKind.wrap IntKind.i64 ((0 : Int) + (1 : Int)) < (↑(3) : Int)) (.gc 47 ([{ es := 5, n := 1, mu := true, f := Rep.lst [[Zi 1, Zi 0, Zi 0, Zi 0, AV.bool true]] }]) ([AV.own (0) (5) (0) (0) (5), AV.str (bs wWho)]) (AV.own (0 : Nat) (5 : Nat) (0 : Nat) (1 : Nat) (1 : Nat)) ([some { es := (5 : Nat), n := (1 : Nat), mu := true, f := Rep.lst [[Zi 1, Zi 0, Zi 0, Zi 0, AV.bool true]] }]) (.ff (.req ((0 : Int) ≤ IntKind.wrap IntKind.i64 ((0 : Int) + (1 : Int)) ∧ IntKind.wrap IntKind.i64 ((0 : Int) + (1 : Int)) < (↑(List.length ws) : Int)) (.sc (true) 49 ([AV.str (bs (List.getD ws (1) []))]) (AV.tup [Zi (numVal (List.getD ws (1 : Nat) [])), AV.bool (Option.isSome (numC (List.getD ws (1 : Nat) [])))]) (.br (!Option.isSome (numC (List.getD ws (1) []))) (.out (AV.tup [AV.agg [Zi 0, Zi 0, Zi 0, Zi 0, AV.bool false], AV.bool false]) [] (AV.tup [AV.agg (Cmd.cells (Option.getD (matchF { kind := (1 : Int), ws := [wWithdraw, wWho, wAmount], whom := (0 : Int) } ws) Cmd.zero)), AV.bool (Option.isSome (matchF { kind := (1 : Int), ws := [wWithdraw, wWho, wAmount], whom := (0 : Int) } ws))]) []) (.tt (.req ((0 : Int) ≤ IntKind.wrap IntKind.i64 (IntKind.wrap IntKind.i64 ((0 : Int) + (1 : Int)) + (1 : Int)) ∧ IntKind.wrap IntKind.i64 (IntKind.wrap IntKind.i64 ((0 : Int) + (1 : Int)) + (1 : Int)) < (↑(3) : Int)) (.gc 47 ([{ es := 5, n := 1, mu := true, f := Rep.lst [[Zi 1, Zi (numVal (List.getD ws (1 : Nat) [])), Zi 0, Zi 0, AV.bool true]] }]) ([AV.own (0) (5) (0) (0) (5), AV.str (bs wAmount)]) (AV.own (0 : Nat) (5 : Nat) (0 : Nat) (3 : Nat) (1 : Nat)) ([some { es := (5 : Nat), n := (1 : Nat), mu := true, f := Rep.lst [[Zi 1, Zi (numVal (List.getD ws (1 : Nat) [])), Zi 0, Zi 0, AV.bool true]] }]) (.ff (.req ((0 : Int) ≤ IntKind.wrap IntKind.i64 (IntKind.wrap IntKind.i64 ((0 : Int) + (1 : Int)) + (1 : Int)) ∧ IntKind.wrap IntKind.i64 (IntKind.wrap IntKind.i64 ((0 : Int) + (1 : Int)) + (1 : Int)) < (↑(List.length ws) : Int)) (.sc (true) 49 ([AV.str (bs (List.getD ws (2) []))]) (AV.tup [Zi (numVal (List.getD ws (2 : Nat) [])), AV.bool (Option.isSome (numC (List.getD ws (2 : Nat) [])))]) (.br (!Option.isSome (numC (List.getD ws (2) []))) (.out (AV.tup [AV.agg [Zi 0, Zi 0, Zi 0, Zi 0, AV.bool false], AV.bool false]) [] (AV.tup [AV.agg (Cmd.cells (Option.getD (matchF { kind := (1 : Int), ws := [wWithdraw, wWho, wAmount], whom := (0 : Int) } ws) Cmd.zero)), AV.bool (Option.isSome (matchF { kind := (1 : Int), ws := [wWithdraw, wWho, wAmount], whom := (0 : Int) } ws))]) []) (.ff (.out (AV.tup [AV.agg [Zi 1, Zi (numVal (List.getD ws (1) [])), Zi 0, Zi (numVal (List.getD ws (2) [])), AV.bool true], AV.bool true]) [] (AV.tup [AV.agg (Cmd.cells (Option.getD (matchF { kind := (1 : Int), ws := [wWithdraw, wWho, wAmount], whom := (0 : Int) } ws) Cmd.zero)), AV.bool (Option.isSome (matchF { kind := (1 : Int), ws := [wWithdraw, wWho, wAmount], whom := (0 : Int) } ws))]) []))))))))))))))))))))))))
    (by kernel_rfl) ?_
  refine k_gc (c0) ?_
  refine k_br (fun h1 => ?_) (fun h1 => ?_)
  · have g1 := cnd_bne_t h1
    exact k_out (Ent.of_eq (by first | exact mO (nLen 3 rfl (by assumption)) | exact mO (nWord 0 wWithdraw rfl (by decide) (by assumption)) | exact mO (nNum 1 wWho rfl (by decide) (by assumption)) | exact mO (nNum 2 wAmount rfl (by decide) (by assumption)) | (have h := s1 (k := 1) (b := true) (W := wWithdraw) (by decide) (by assumption) (by assumption) (by assumption) (by assumption); rw [show matchF ⟨1, [wWithdraw, wWho, wAmount], 0⟩ ws = _ from h]; rfl)))
  · have g1 := cnd_bne_f h1
    refine k_tt ?_
    refine k_req ((by first | omega | decide | (rw [g1]; decide))) ?_
    refine k_gc (f0 ((1 : Int)) ((0 : Int)) ((0 : Int)) ((0 : Int)) (true)) ?_
    refine k_tt ?_
    refine k_req ((by first | omega | decide | (rw [g1]; decide))) ?_
    refine k_br (fun h8 => ?_) (fun h8 => ?_)
    · have g8 := (cnd_not_t cnd_id_f) h8
      exact k_out (Ent.of_eq (by first | exact mO (nLen 3 rfl (by assumption)) | exact mO (nWord 0 wWithdraw rfl (by decide) (by assumption)) | exact mO (nNum 1 wWho rfl (by decide) (by assumption)) | exact mO (nNum 2 wAmount rfl (by decide) (by assumption)) | (have h := s1 (k := 1) (b := true) (W := wWithdraw) (by decide) (by assumption) (by assumption) (by assumption) (by assumption); rw [show matchF ⟨1, [wWithdraw, wWho, wAmount], 0⟩ ws = _ from h]; rfl)))
    · have g8 := (cnd_not_f cnd_id_t) h8
      refine k_tt ?_
      refine k_req ((by first | omega | decide | (rw [g1]; decide))) ?_
      refine k_gc ((field_1 m) ((1 : Int)) ((0 : Int)) ((0 : Int)) ((0 : Int)) (true)) ?_
      refine k_ff ?_
      refine k_req ((by first | omega | decide | (rw [g1]; decide))) ?_
      refine k_sc (n1) ?_
      refine k_br (fun h16 => ?_) (fun h16 => ?_)
      · have g16 := (cnd_not_t cnd_id_f) h16
        exact k_out (Ent.of_eq (by first | exact mO (nLen 3 rfl (by assumption)) | exact mO (nWord 0 wWithdraw rfl (by decide) (by assumption)) | exact mO (nNum 1 wWho rfl (by decide) (by assumption)) | exact mO (nNum 2 wAmount rfl (by decide) (by assumption)) | (have h := s1 (k := 1) (b := true) (W := wWithdraw) (by decide) (by assumption) (by assumption) (by assumption) (by assumption); rw [show matchF ⟨1, [wWithdraw, wWho, wAmount], 0⟩ ws = _ from h]; rfl)))
      · have g16 := (cnd_not_f cnd_id_t) h16
        refine k_tt ?_
        refine k_req ((by first | omega | decide | (rw [g1]; decide))) ?_
        refine k_gc ((field_3 m) ((1 : Int)) (numVal (List.getD ws (1 : Nat) [])) ((0 : Int)) ((0 : Int)) (true)) ?_
        refine k_ff ?_
        refine k_req ((by first | omega | decide | (rw [g1]; decide))) ?_
        refine k_sc (n2) ?_
        refine k_br (fun h24 => ?_) (fun h24 => ?_)
        · have g24 := (cnd_not_t cnd_id_f) h24
          exact k_out (Ent.of_eq (by first | exact mO (nLen 3 rfl (by assumption)) | exact mO (nWord 0 wWithdraw rfl (by decide) (by assumption)) | exact mO (nNum 1 wWho rfl (by decide) (by assumption)) | exact mO (nNum 2 wAmount rfl (by decide) (by assumption)) | (have h := s1 (k := 1) (b := true) (W := wWithdraw) (by decide) (by assumption) (by assumption) (by assumption) (by assumption); rw [show matchF ⟨1, [wWithdraw, wWho, wAmount], 0⟩ ws = _ from h]; rfl)))
        · have g24 := (cnd_not_f cnd_id_t) h24
          refine k_ff ?_
          exact k_out (Ent.of_eq (by first | exact mO (nLen 3 rfl (by assumption)) | exact mO (nWord 0 wWithdraw rfl (by decide) (by assumption)) | exact mO (nNum 1 wWho rfl (by decide) (by assumption)) | exact mO (nNum 2 wAmount rfl (by decide) (by assumption)) | (have h := s1 (k := 1) (b := true) (W := wWithdraw) (by decide) (by assumption) (by assumption) (by assumption) (by assumption); rw [show matchF ⟨1, [wWithdraw, wWho, wAmount], 0⟩ ws = _ from h]; rfl)))

theorem match_1 (m : GP) (ws : List Str) (hw : ∀ w ∈ ws, w.length ≤ 281474976710656) (hn : ws.length < 9223372036854775808) : Pure Tryd.prog (gl0 m) 31 [.agg [.int .i64 2, .str (bs wf1), .int .i64 0], wlA ws] (.tup [.agg (Cmd.cells ((matchF ⟨2, [wPay, wWho, wWhom, wAmount], 0⟩ ws).getD .zero)), .bool (matchF ⟨2, [wPay, wWho, wWhom, wAmount], 0⟩ ws).isSome]) := by
  have c0 := fields_1 m
  have f0 := fun c0 c1 c2 c3 c4 => field_0 m c0 c1 c2 c3 c4 wPay (fd _ (by decide)).1 (fd _ (by decide)).2.1 (fd _ (by decide)).2.2
  have n1 := number_c m (ws.getD 1 []) (getD_len hw)
  have n2 := number_c m (ws.getD 2 []) (getD_len hw)
  have n3 := number_c m (ws.getD 3 []) (getD_len hw)
  refine pure_sk (own := (owM 5)) Tryd.func31 (by kernel_rfl) mixed (by kernel_rfl)
    (.gc 46 ([]) ([AV.str (bs wf1)]) (AV.osl (0 : Nat) (1 : Nat) (0 : Nat) (4 : Nat)) ([some { es := (1 : Nat), n := (4 : Nat), mu := true, f := Rep.lst [[AV.str (bs wPay)], [AV.str (bs wWho)], [AV.str (bs wWhom)], [AV.str (bs wAmount)]] }]) (.br ((↑(List.length ws) : Int) != (↑(4) : Int)) (.out (AV.tup [AV.agg [Zi 0, Zi 0, Zi 0, Zi 0, AV.bool false], AV.bool false]) [] (AV.tup [AV.agg (Cmd.cells (Option.getD (matchF { kind := (2 : Int), ws := [wPay, wWho, wWhom, wAmount], whom := (0 : Int) } ws) Cmd.zero)), AV.bool (Option.isSome (matchF { kind := (2 : Int), ws := [wPay, wWho, wWhom, wAmount], whom := (0 : Int) } ws))]) []) (.tt (.req ((0 : Int) ≤ (0 : Int) ∧ (0 : Int) < (↑(4) : Int)) (.gc 47 ([{ es := 5, n := 1, mu := true, f := Rep.lst [[Zi 2, Zi 0, Zi 0, Zi 0, AV.bool true]] }]) ([AV.own (0) (5) (0) (0) (5), AV.str (bs wPay)]) (AV.raw (Value.pointer none)) ([some { es := (5 : Nat), n := (1 : Nat), mu := true, f := Rep.lst [[Zi 2, Zi 0, Zi 0, Zi 0, AV.bool true]] }]) (.tt (.req ((0 : Int) ≤ (0 : Int) ∧ (0 : Int) < (↑(List.length ws) : Int)) (.br (!ByteArray.toList (bs (List.getD ws (Int.toNat (0 : Int)) [])) == ByteArray.toList (bs wPay)) (.out (AV.tup [AV.agg [Zi 0, Zi 0, Zi 0, Zi 0, AV.bool false], AV.bool false]) [] (AV.tup [AV.agg (Cmd.cells (Option.getD (matchF { kind := (2 : Int), ws := [wPay, wWho, wWhom, wAmount], whom := (0 : Int) } ws) Cmd.zero)), AV.bool (Option.isSome (matchF { kind := (2 : Int), ws := [wPay, wWho, wWhom, wAmount], whom := (0 : Int) } ws))]) []) (.tt (.req ((0 : Int) ≤ IntKind.wrap IntKind.i64 ((0 : Int) + (1 : Int)) ∧ IntKind.wrap IntKind.i64 ((0 : Int) + (1 : Int)) < (↑(4) : Int)) (.gc 47 ([{ es := 5, n := 1, mu := true, f := Rep.lst [[Zi 2, Zi 0, Zi 0, Zi 0, AV.bool true]] }]) ([AV.own (0) (5) (0) (0) (5), AV.str (bs wWho)]) (AV.own (0 : Nat) (5 : Nat) (0 : Nat) (1 : Nat) (1 : Nat)) ([some { es := (5 : Nat), n := (1 : Nat), mu := true, f := Rep.lst [[Zi 2, Zi 0, Zi 0, Zi 0, AV.bool true]] }]) (.ff (.req ((0 : Int) ≤ IntKind.wrap IntKind.i64 ((0 : Int) + (1 : Int)) ∧ IntKind.wrap IntKind.i64 ((0 : Int) + (1 : Int)) < (↑(List.length ws) : Int)) (.sc (true) 49 ([AV.str (bs (List.getD ws (1) []))]) (AV.tup [Zi (numVal (List.getD ws (1 : Nat) [])), AV.bool (Option.isSome (numC (List.getD ws (1 : Nat) [])))]) (.br (!Option.isSome (numC (List.getD ws (1) []))) (.out (AV.tup [AV.agg [Zi 0, Zi 0, Zi 0, Zi 0, AV.bool false], AV.bool false]) [] (AV.tup [AV.agg (Cmd.cells (Option.getD (matchF { kind := (2 : Int), ws := [wPay, wWho, wWhom, wAmount], whom := (0 : Int) } ws) Cmd.zero)), AV.bool (Option.isSome (matchF { kind := (2 : Int), ws := [wPay, wWho, wWhom, wAmount], whom := (0 : Int) } ws))]) []) (.tt (.req ((0 : Int) ≤ IntKind.wrap IntKind.i64 (IntKind.wrap IntKind.i64 ((0 : Int) + (1 : Int)) + (1 : Int)) ∧ IntKind.wrap IntKind.i64 (IntKind.wrap IntKind.i64 ((0 : Int) + (1 : Int)) + (1 : Int)) < (↑(4) : Int)) (.gc 47 ([{ es := 5, n := 1, mu := true, f := Rep.lst [[Zi 2, Zi (numVal (List.getD ws (1 : Nat) [])), Zi 0, Zi 0, AV.bool true]] }]) ([AV.own (0) (5) (0) (0) (5), AV.str (bs wWhom)]) (AV.own (0 : Nat) (5 : Nat) (0 : Nat) (2 : Nat) (1 : Nat)) ([some { es := (5 : Nat), n := (1 : Nat), mu := true, f := Rep.lst [[Zi 2, Zi (numVal (List.getD ws (1 : Nat) [])), Zi 0, Zi 0, AV.bool true]] }]) (.ff (.req ((0 : Int) ≤ IntKind.wrap IntKind.i64 (IntKind.wrap IntKind.i64 ((0 : Int) + (1 : Int)) + (1 : Int)) ∧ IntKind.wrap IntKind.i64 (IntKind.wrap IntKind.i64 ((0 : Int) + (1 : Int)) + (1 : Int)) < (↑(List.length ws) : Int)) (.sc (true) 49 ([AV.str (bs (List.getD ws (2) []))]) (AV.tup [Zi (numVal (List.getD ws (2 : Nat) [])), AV.bool (Option.isSome (numC (List.getD ws (2 : Nat) [])))]) (.br (!Option.isSome (numC (List.getD ws (2) []))) (.out (AV.tup [AV.agg [Zi 0, Zi 0, Zi 0, Zi 0, AV.bool false], AV.bool false]) [] (AV.tup [AV.agg (Cmd.cells (Option.getD (matchF { kind := (2 : Int), ws := [wPay, wWho, wWhom, wAmount], whom := (0 : Int) } ws) Cmd.zero)), AV.bool (Option.isSome (matchF { kind := (2 : Int), ws := [wPay, wWho, wWhom, wAmount], whom := (0 : Int) } ws))]) []) (.tt (.req ((0 : Int) ≤ IntKind.wrap IntKind.i64 (IntKind.wrap IntKind.i64 (IntKind.wrap IntKind.i64 ((0 : Int) + (1 : Int)) + (1 : Int)) + (1 : Int)) ∧ IntKind.wrap IntKind.i64 (IntKind.wrap IntKind.i64 (IntKind.wrap IntKind.i64 ((0 : Int) + (1 : Int)) + (1 : Int)) + (1 : Int)) < (↑(4) : Int)) (.gc 47 ([{ es := 5, n := 1, mu := true, f := Rep.lst [[Zi 2, Zi (numVal (List.getD ws (1 : Nat) [])), Zi (numVal (List.getD ws (2 : Nat) [])), Zi 0, AV.bool true]] }]) ([AV.own (0) (5) (0) (0) (5), AV.str (bs wAmount)]) (AV.own (0 : Nat) (5 : Nat) (0 : Nat) (3 : Nat) (1 : Nat)) ([some { es := (5 : Nat), n := (1 : Nat), mu := true, f := Rep.lst [[Zi 2, Zi (numVal (List.getD ws (1 : Nat) [])), Zi (numVal (List.getD ws (2 : Nat) [])), Zi 0, AV.bool true]] }]) (.ff (.req ((0 : Int) ≤ IntKind.wrap IntKind.i64 (IntKind.wrap IntKind.i64 (IntKind.wrap IntKind.i64 ((0 : Int) + (1 : Int)) + (1 : Int)) + (1 : Int)) ∧ IntKind.wrap IntKind.i64 (IntKind.wrap IntKind.i64 (IntKind.wrap IntKind.i64 ((0 : Int) + (1 : Int)) + (1 : Int)) + (1 : Int)) < (↑(List.length ws) : Int)) (.sc (true) 49 ([AV.str (bs (List.getD ws (3) []))]) (AV.tup [Zi (numVal (List.getD ws (3 : Nat) [])), AV.bool (Option.isSome (numC (List.getD ws (3 : Nat) [])))]) (.br (!Option.isSome (numC (List.getD ws (3) []))) (.out (AV.tup [AV.agg [Zi 0, Zi 0, Zi 0, Zi 0, AV.bool false], AV.bool false]) [] (AV.tup [AV.agg (Cmd.cells (Option.getD (matchF { kind := (2 : Int), ws := [wPay, wWho, wWhom, wAmount], whom := (0 : Int) } ws) Cmd.zero)), AV.bool (Option.isSome (matchF { kind := (2 : Int), ws := [wPay, wWho, wWhom, wAmount], whom := (0 : Int) } ws))]) []) (.ff (.out (AV.tup [AV.agg [Zi 2, Zi (numVal (List.getD ws (1) [])), Zi (numVal (List.getD ws (2) [])), Zi (numVal (List.getD ws (3) [])), AV.bool true], AV.bool true]) [] (AV.tup [AV.agg (Cmd.cells (Option.getD (matchF { kind := (2 : Int), ws := [wPay, wWho, wWhom, wAmount], whom := (0 : Int) } ws) Cmd.zero)), AV.bool (Option.isSome (matchF { kind := (2 : Int), ws := [wPay, wWho, wWhom, wAmount], whom := (0 : Int) } ws))]) [])))))))))))))))))))))))))))))))
    (by kernel_rfl) ?_
  refine k_gc (c0) ?_
  refine k_br (fun h1 => ?_) (fun h1 => ?_)
  · have g1 := cnd_bne_t h1
    exact k_out (Ent.of_eq (by first | exact mO (nLen 4 rfl (by assumption)) | exact mO (nWord 0 wPay rfl (by decide) (by assumption)) | exact mO (nNum 1 wWho rfl (by decide) (by assumption)) | exact mO (nNum 2 wWhom rfl (by decide) (by assumption)) | exact mO (nNum 3 wAmount rfl (by decide) (by assumption)) | (have h := s2 (k := 2) (b := true) (W := wPay) (by decide) (by assumption) (by assumption) (by assumption) (by assumption) (by assumption); rw [show matchF ⟨2, [wPay, wWho, wWhom, wAmount], 0⟩ ws = _ from h]; rfl)))
  · have g1 := cnd_bne_f h1
    refine k_tt ?_
    refine k_req ((by first | omega | decide | (rw [g1]; decide))) ?_
    refine k_gc (f0 ((2 : Int)) ((0 : Int)) ((0 : Int)) ((0 : Int)) (true)) ?_
    refine k_tt ?_
    refine k_req ((by first | omega | decide | (rw [g1]; decide))) ?_
    refine k_br (fun h8 => ?_) (fun h8 => ?_)
    · have g8 := (cnd_not_t cnd_id_f) h8
      exact k_out (Ent.of_eq (by first | exact mO (nLen 4 rfl (by assumption)) | exact mO (nWord 0 wPay rfl (by decide) (by assumption)) | exact mO (nNum 1 wWho rfl (by decide) (by assumption)) | exact mO (nNum 2 wWhom rfl (by decide) (by assumption)) | exact mO (nNum 3 wAmount rfl (by decide) (by assumption)) | (have h := s2 (k := 2) (b := true) (W := wPay) (by decide) (by assumption) (by assumption) (by assumption) (by assumption) (by assumption); rw [show matchF ⟨2, [wPay, wWho, wWhom, wAmount], 0⟩ ws = _ from h]; rfl)))
    · have g8 := (cnd_not_f cnd_id_t) h8
      refine k_tt ?_
      refine k_req ((by first | omega | decide | (rw [g1]; decide))) ?_
      refine k_gc ((field_1 m) ((2 : Int)) ((0 : Int)) ((0 : Int)) ((0 : Int)) (true)) ?_
      refine k_ff ?_
      refine k_req ((by first | omega | decide | (rw [g1]; decide))) ?_
      refine k_sc (n1) ?_
      refine k_br (fun h16 => ?_) (fun h16 => ?_)
      · have g16 := (cnd_not_t cnd_id_f) h16
        exact k_out (Ent.of_eq (by first | exact mO (nLen 4 rfl (by assumption)) | exact mO (nWord 0 wPay rfl (by decide) (by assumption)) | exact mO (nNum 1 wWho rfl (by decide) (by assumption)) | exact mO (nNum 2 wWhom rfl (by decide) (by assumption)) | exact mO (nNum 3 wAmount rfl (by decide) (by assumption)) | (have h := s2 (k := 2) (b := true) (W := wPay) (by decide) (by assumption) (by assumption) (by assumption) (by assumption) (by assumption); rw [show matchF ⟨2, [wPay, wWho, wWhom, wAmount], 0⟩ ws = _ from h]; rfl)))
      · have g16 := (cnd_not_f cnd_id_t) h16
        refine k_tt ?_
        refine k_req ((by first | omega | decide | (rw [g1]; decide))) ?_
        refine k_gc ((field_2 m) ((2 : Int)) (numVal (List.getD ws (1 : Nat) [])) ((0 : Int)) ((0 : Int)) (true)) ?_
        refine k_ff ?_
        refine k_req ((by first | omega | decide | (rw [g1]; decide))) ?_
        refine k_sc (n2) ?_
        refine k_br (fun h24 => ?_) (fun h24 => ?_)
        · have g24 := (cnd_not_t cnd_id_f) h24
          exact k_out (Ent.of_eq (by first | exact mO (nLen 4 rfl (by assumption)) | exact mO (nWord 0 wPay rfl (by decide) (by assumption)) | exact mO (nNum 1 wWho rfl (by decide) (by assumption)) | exact mO (nNum 2 wWhom rfl (by decide) (by assumption)) | exact mO (nNum 3 wAmount rfl (by decide) (by assumption)) | (have h := s2 (k := 2) (b := true) (W := wPay) (by decide) (by assumption) (by assumption) (by assumption) (by assumption) (by assumption); rw [show matchF ⟨2, [wPay, wWho, wWhom, wAmount], 0⟩ ws = _ from h]; rfl)))
        · have g24 := (cnd_not_f cnd_id_t) h24
          refine k_tt ?_
          refine k_req ((by first | omega | decide | (rw [g1]; decide))) ?_
          refine k_gc ((field_3 m) ((2 : Int)) (numVal (List.getD ws (1 : Nat) [])) (numVal (List.getD ws (2 : Nat) [])) ((0 : Int)) (true)) ?_
          refine k_ff ?_
          refine k_req ((by first | omega | decide | (rw [g1]; decide))) ?_
          refine k_sc (n3) ?_
          refine k_br (fun h32 => ?_) (fun h32 => ?_)
          · have g32 := (cnd_not_t cnd_id_f) h32
            exact k_out (Ent.of_eq (by first | exact mO (nLen 4 rfl (by assumption)) | exact mO (nWord 0 wPay rfl (by decide) (by assumption)) | exact mO (nNum 1 wWho rfl (by decide) (by assumption)) | exact mO (nNum 2 wWhom rfl (by decide) (by assumption)) | exact mO (nNum 3 wAmount rfl (by decide) (by assumption)) | (have h := s2 (k := 2) (b := true) (W := wPay) (by decide) (by assumption) (by assumption) (by assumption) (by assumption) (by assumption); rw [show matchF ⟨2, [wPay, wWho, wWhom, wAmount], 0⟩ ws = _ from h]; rfl)))
          · have g32 := (cnd_not_f cnd_id_t) h32
            refine k_ff ?_
            exact k_out (Ent.of_eq (by first | exact mO (nLen 4 rfl (by assumption)) | exact mO (nWord 0 wPay rfl (by decide) (by assumption)) | exact mO (nNum 1 wWho rfl (by decide) (by assumption)) | exact mO (nNum 2 wWhom rfl (by decide) (by assumption)) | exact mO (nNum 3 wAmount rfl (by decide) (by assumption)) | (have h := s2 (k := 2) (b := true) (W := wPay) (by decide) (by assumption) (by assumption) (by assumption) (by assumption) (by assumption); rw [show matchF ⟨2, [wPay, wWho, wWhom, wAmount], 0⟩ ws = _ from h]; rfl)))

theorem match_2 (m : GP) (ws : List Str) (hw : ∀ w ∈ ws, w.length ≤ 281474976710656) (hn : ws.length < 9223372036854775808) : Pure Tryd.prog (gl0 m) 31 [.agg [.int .i64 3, .str (bs wf2), .int .i64 0], wlA ws] (.tup [.agg (Cmd.cells ((matchF ⟨3, [wTransfer, wWho, wWhom, wAmount], 0⟩ ws).getD .zero)), .bool (matchF ⟨3, [wTransfer, wWho, wWhom, wAmount], 0⟩ ws).isSome]) := by
  have c0 := fields_2 m
  have f0 := fun c0 c1 c2 c3 c4 => field_0 m c0 c1 c2 c3 c4 wTransfer (fd _ (by decide)).1 (fd _ (by decide)).2.1 (fd _ (by decide)).2.2
  have n1 := number_c m (ws.getD 1 []) (getD_len hw)
  have n2 := number_c m (ws.getD 2 []) (getD_len hw)
  have n3 := number_c m (ws.getD 3 []) (getD_len hw)
  refine pure_sk (own := (owM 5)) Tryd.func31 (by kernel_rfl) mixed (by kernel_rfl)
    (.gc 46 ([]) ([AV.str (bs wf2)]) (AV.osl (0 : Nat) (1 : Nat) (0 : Nat) (4 : Nat)) ([some { es := (1 : Nat), n := (4 : Nat), mu := true, f := Rep.lst [[AV.str (bs wTransfer)], [AV.str (bs wWho)], [AV.str (bs wWhom)], [AV.str (bs wAmount)]] }]) (.br ((↑(List.length ws) : Int) != (↑(4) : Int)) (.out (AV.tup [AV.agg [Zi 0, Zi 0, Zi 0, Zi 0, AV.bool false], AV.bool false]) [] (AV.tup [AV.agg (Cmd.cells (Option.getD (matchF { kind := (3 : Int), ws := [wTransfer, wWho, wWhom, wAmount], whom := (0 : Int) } ws) Cmd.zero)), AV.bool (Option.isSome (matchF { kind := (3 : Int), ws := [wTransfer, wWho, wWhom, wAmount], whom := (0 : Int) } ws))]) []) (.tt (.req ((0 : Int) ≤ (0 : Int) ∧ (0 : Int) < (↑(4) : Int)) (.gc 47 ([{ es := 5, n := 1, mu := true, f := Rep.lst [[Zi 3, Zi 0, Zi 0, Zi 0, AV.bool true]] }]) ([AV.own (0) (5) (0) (0) (5), AV.str (bs wTransfer)]) (AV.raw (Value.pointer none)) ([some { es := (5 : Nat), n := (1 : Nat), mu := true, f := Rep.lst [[Zi 3, Zi 0, Zi 0, Zi 0, AV.bool true]] }]) (.tt (.req ((0 : Int) ≤ (0 : Int) ∧ (0 : Int) < (↑(List.length ws) : Int)) (.br (!ByteArray.toList (bs (List.getD ws (Int.toNat (0 : Int)) [])) == ByteArray.toList (bs wTransfer)) (.out (AV.tup [AV.agg [Zi 0, Zi 0, Zi 0, Zi 0, AV.bool false], AV.bool false]) [] (AV.tup [AV.agg (Cmd.cells (Option.getD (matchF { kind := (3 : Int), ws := [wTransfer, wWho, wWhom, wAmount], whom := (0 : Int) } ws) Cmd.zero)), AV.bool (Option.isSome (matchF { kind := (3 : Int), ws := [wTransfer, wWho, wWhom, wAmount], whom := (0 : Int) } ws))]) []) (.tt (.req ((0 : Int) ≤ IntKind.wrap IntKind.i64 ((0 : Int) + (1 : Int)) ∧ IntKind.wrap IntKind.i64 ((0 : Int) + (1 : Int)) < (↑(4) : Int)) (.gc 47 ([{ es := 5, n := 1, mu := true, f := Rep.lst [[Zi 3, Zi 0, Zi 0, Zi 0, AV.bool true]] }]) ([AV.own (0) (5) (0) (0) (5), AV.str (bs wWho)]) (AV.own (0 : Nat) (5 : Nat) (0 : Nat) (1 : Nat) (1 : Nat)) ([some { es := (5 : Nat), n := (1 : Nat), mu := true, f := Rep.lst [[Zi 3, Zi 0, Zi 0, Zi 0, AV.bool true]] }]) (.ff (.req ((0 : Int) ≤ IntKind.wrap IntKind.i64 ((0 : Int) + (1 : Int)) ∧ IntKind.wrap IntKind.i64 ((0 : Int) + (1 : Int)) < (↑(List.length ws) : Int)) (.sc (true) 49 ([AV.str (bs (List.getD ws (1) []))]) (AV.tup [Zi (numVal (List.getD ws (1 : Nat) [])), AV.bool (Option.isSome (numC (List.getD ws (1 : Nat) [])))]) (.br (!Option.isSome (numC (List.getD ws (1) []))) (.out (AV.tup [AV.agg [Zi 0, Zi 0, Zi 0, Zi 0, AV.bool false], AV.bool false]) [] (AV.tup [AV.agg (Cmd.cells (Option.getD (matchF { kind := (3 : Int), ws := [wTransfer, wWho, wWhom, wAmount], whom := (0 : Int) } ws) Cmd.zero)), AV.bool (Option.isSome (matchF { kind := (3 : Int), ws := [wTransfer, wWho, wWhom, wAmount], whom := (0 : Int) } ws))]) []) (.tt (.req ((0 : Int) ≤ IntKind.wrap IntKind.i64 (IntKind.wrap IntKind.i64 ((0 : Int) + (1 : Int)) + (1 : Int)) ∧ IntKind.wrap IntKind.i64 (IntKind.wrap IntKind.i64 ((0 : Int) + (1 : Int)) + (1 : Int)) < (↑(4) : Int)) (.gc 47 ([{ es := 5, n := 1, mu := true, f := Rep.lst [[Zi 3, Zi (numVal (List.getD ws (1 : Nat) [])), Zi 0, Zi 0, AV.bool true]] }]) ([AV.own (0) (5) (0) (0) (5), AV.str (bs wWhom)]) (AV.own (0 : Nat) (5 : Nat) (0 : Nat) (2 : Nat) (1 : Nat)) ([some { es := (5 : Nat), n := (1 : Nat), mu := true, f := Rep.lst [[Zi 3, Zi (numVal (List.getD ws (1 : Nat) [])), Zi 0, Zi 0, AV.bool true]] }]) (.ff (.req ((0 : Int) ≤ IntKind.wrap IntKind.i64 (IntKind.wrap IntKind.i64 ((0 : Int) + (1 : Int)) + (1 : Int)) ∧ IntKind.wrap IntKind.i64 (IntKind.wrap IntKind.i64 ((0 : Int) + (1 : Int)) + (1 : Int)) < (↑(List.length ws) : Int)) (.sc (true) 49 ([AV.str (bs (List.getD ws (2) []))]) (AV.tup [Zi (numVal (List.getD ws (2 : Nat) [])), AV.bool (Option.isSome (numC (List.getD ws (2 : Nat) [])))]) (.br (!Option.isSome (numC (List.getD ws (2) []))) (.out (AV.tup [AV.agg [Zi 0, Zi 0, Zi 0, Zi 0, AV.bool false], AV.bool false]) [] (AV.tup [AV.agg (Cmd.cells (Option.getD (matchF { kind := (3 : Int), ws := [wTransfer, wWho, wWhom, wAmount], whom := (0 : Int) } ws) Cmd.zero)), AV.bool (Option.isSome (matchF { kind := (3 : Int), ws := [wTransfer, wWho, wWhom, wAmount], whom := (0 : Int) } ws))]) []) (.tt (.req ((0 : Int) ≤ IntKind.wrap IntKind.i64 (IntKind.wrap IntKind.i64 (IntKind.wrap IntKind.i64 ((0 : Int) + (1 : Int)) + (1 : Int)) + (1 : Int)) ∧ IntKind.wrap IntKind.i64 (IntKind.wrap IntKind.i64 (IntKind.wrap IntKind.i64 ((0 : Int) + (1 : Int)) + (1 : Int)) + (1 : Int)) < (↑(4) : Int)) (.gc 47 ([{ es := 5, n := 1, mu := true, f := Rep.lst [[Zi 3, Zi (numVal (List.getD ws (1 : Nat) [])), Zi (numVal (List.getD ws (2 : Nat) [])), Zi 0, AV.bool true]] }]) ([AV.own (0) (5) (0) (0) (5), AV.str (bs wAmount)]) (AV.own (0 : Nat) (5 : Nat) (0 : Nat) (3 : Nat) (1 : Nat)) ([some { es := (5 : Nat), n := (1 : Nat), mu := true, f := Rep.lst [[Zi 3, Zi (numVal (List.getD ws (1 : Nat) [])), Zi (numVal (List.getD ws (2 : Nat) [])), Zi 0, AV.bool true]] }]) (.ff (.req ((0 : Int) ≤ IntKind.wrap IntKind.i64 (IntKind.wrap IntKind.i64 (IntKind.wrap IntKind.i64 ((0 : Int) + (1 : Int)) + (1 : Int)) + (1 : Int)) ∧ IntKind.wrap IntKind.i64 (IntKind.wrap IntKind.i64 (IntKind.wrap IntKind.i64 ((0 : Int) + (1 : Int)) + (1 : Int)) + (1 : Int)) < (↑(List.length ws) : Int)) (.sc (true) 49 ([AV.str (bs (List.getD ws (3) []))]) (AV.tup [Zi (numVal (List.getD ws (3 : Nat) [])), AV.bool (Option.isSome (numC (List.getD ws (3 : Nat) [])))]) (.br (!Option.isSome (numC (List.getD ws (3) []))) (.out (AV.tup [AV.agg [Zi 0, Zi 0, Zi 0, Zi 0, AV.bool false], AV.bool false]) [] (AV.tup [AV.agg (Cmd.cells (Option.getD (matchF { kind := (3 : Int), ws := [wTransfer, wWho, wWhom, wAmount], whom := (0 : Int) } ws) Cmd.zero)), AV.bool (Option.isSome (matchF { kind := (3 : Int), ws := [wTransfer, wWho, wWhom, wAmount], whom := (0 : Int) } ws))]) []) (.ff (.out (AV.tup [AV.agg [Zi 3, Zi (numVal (List.getD ws (1) [])), Zi (numVal (List.getD ws (2) [])), Zi (numVal (List.getD ws (3) [])), AV.bool true], AV.bool true]) [] (AV.tup [AV.agg (Cmd.cells (Option.getD (matchF { kind := (3 : Int), ws := [wTransfer, wWho, wWhom, wAmount], whom := (0 : Int) } ws) Cmd.zero)), AV.bool (Option.isSome (matchF { kind := (3 : Int), ws := [wTransfer, wWho, wWhom, wAmount], whom := (0 : Int) } ws))]) [])))))))))))))))))))))))))))))))
    (by kernel_rfl) ?_
  refine k_gc (c0) ?_
  refine k_br (fun h1 => ?_) (fun h1 => ?_)
  · have g1 := cnd_bne_t h1
    exact k_out (Ent.of_eq (by first | exact mO (nLen 4 rfl (by assumption)) | exact mO (nWord 0 wTransfer rfl (by decide) (by assumption)) | exact mO (nNum 1 wWho rfl (by decide) (by assumption)) | exact mO (nNum 2 wWhom rfl (by decide) (by assumption)) | exact mO (nNum 3 wAmount rfl (by decide) (by assumption)) | (have h := s2 (k := 3) (b := true) (W := wTransfer) (by decide) (by assumption) (by assumption) (by assumption) (by assumption) (by assumption); rw [show matchF ⟨3, [wTransfer, wWho, wWhom, wAmount], 0⟩ ws = _ from h]; rfl)))
  · have g1 := cnd_bne_f h1
    refine k_tt ?_
    refine k_req ((by first | omega | decide | (rw [g1]; decide))) ?_
    refine k_gc (f0 ((3 : Int)) ((0 : Int)) ((0 : Int)) ((0 : Int)) (true)) ?_
    refine k_tt ?_
    refine k_req ((by first | omega | decide | (rw [g1]; decide))) ?_
    refine k_br (fun h8 => ?_) (fun h8 => ?_)
    · have g8 := (cnd_not_t cnd_id_f) h8
      exact k_out (Ent.of_eq (by first | exact mO (nLen 4 rfl (by assumption)) | exact mO (nWord 0 wTransfer rfl (by decide) (by assumption)) | exact mO (nNum 1 wWho rfl (by decide) (by assumption)) | exact mO (nNum 2 wWhom rfl (by decide) (by assumption)) | exact mO (nNum 3 wAmount rfl (by decide) (by assumption)) | (have h := s2 (k := 3) (b := true) (W := wTransfer) (by decide) (by assumption) (by assumption) (by assumption) (by assumption) (by assumption); rw [show matchF ⟨3, [wTransfer, wWho, wWhom, wAmount], 0⟩ ws = _ from h]; rfl)))
    · have g8 := (cnd_not_f cnd_id_t) h8
      refine k_tt ?_
      refine k_req ((by first | omega | decide | (rw [g1]; decide))) ?_
      refine k_gc ((field_1 m) ((3 : Int)) ((0 : Int)) ((0 : Int)) ((0 : Int)) (true)) ?_
      refine k_ff ?_
      refine k_req ((by first | omega | decide | (rw [g1]; decide))) ?_
      refine k_sc (n1) ?_
      refine k_br (fun h16 => ?_) (fun h16 => ?_)
      · have g16 := (cnd_not_t cnd_id_f) h16
        exact k_out (Ent.of_eq (by first | exact mO (nLen 4 rfl (by assumption)) | exact mO (nWord 0 wTransfer rfl (by decide) (by assumption)) | exact mO (nNum 1 wWho rfl (by decide) (by assumption)) | exact mO (nNum 2 wWhom rfl (by decide) (by assumption)) | exact mO (nNum 3 wAmount rfl (by decide) (by assumption)) | (have h := s2 (k := 3) (b := true) (W := wTransfer) (by decide) (by assumption) (by assumption) (by assumption) (by assumption) (by assumption); rw [show matchF ⟨3, [wTransfer, wWho, wWhom, wAmount], 0⟩ ws = _ from h]; rfl)))
      · have g16 := (cnd_not_f cnd_id_t) h16
        refine k_tt ?_
        refine k_req ((by first | omega | decide | (rw [g1]; decide))) ?_
        refine k_gc ((field_2 m) ((3 : Int)) (numVal (List.getD ws (1 : Nat) [])) ((0 : Int)) ((0 : Int)) (true)) ?_
        refine k_ff ?_
        refine k_req ((by first | omega | decide | (rw [g1]; decide))) ?_
        refine k_sc (n2) ?_
        refine k_br (fun h24 => ?_) (fun h24 => ?_)
        · have g24 := (cnd_not_t cnd_id_f) h24
          exact k_out (Ent.of_eq (by first | exact mO (nLen 4 rfl (by assumption)) | exact mO (nWord 0 wTransfer rfl (by decide) (by assumption)) | exact mO (nNum 1 wWho rfl (by decide) (by assumption)) | exact mO (nNum 2 wWhom rfl (by decide) (by assumption)) | exact mO (nNum 3 wAmount rfl (by decide) (by assumption)) | (have h := s2 (k := 3) (b := true) (W := wTransfer) (by decide) (by assumption) (by assumption) (by assumption) (by assumption) (by assumption); rw [show matchF ⟨3, [wTransfer, wWho, wWhom, wAmount], 0⟩ ws = _ from h]; rfl)))
        · have g24 := (cnd_not_f cnd_id_t) h24
          refine k_tt ?_
          refine k_req ((by first | omega | decide | (rw [g1]; decide))) ?_
          refine k_gc ((field_3 m) ((3 : Int)) (numVal (List.getD ws (1 : Nat) [])) (numVal (List.getD ws (2 : Nat) [])) ((0 : Int)) (true)) ?_
          refine k_ff ?_
          refine k_req ((by first | omega | decide | (rw [g1]; decide))) ?_
          refine k_sc (n3) ?_
          refine k_br (fun h32 => ?_) (fun h32 => ?_)
          · have g32 := (cnd_not_t cnd_id_f) h32
            exact k_out (Ent.of_eq (by first | exact mO (nLen 4 rfl (by assumption)) | exact mO (nWord 0 wTransfer rfl (by decide) (by assumption)) | exact mO (nNum 1 wWho rfl (by decide) (by assumption)) | exact mO (nNum 2 wWhom rfl (by decide) (by assumption)) | exact mO (nNum 3 wAmount rfl (by decide) (by assumption)) | (have h := s2 (k := 3) (b := true) (W := wTransfer) (by decide) (by assumption) (by assumption) (by assumption) (by assumption) (by assumption); rw [show matchF ⟨3, [wTransfer, wWho, wWhom, wAmount], 0⟩ ws = _ from h]; rfl)))
          · have g32 := (cnd_not_f cnd_id_t) h32
            refine k_ff ?_
            exact k_out (Ent.of_eq (by first | exact mO (nLen 4 rfl (by assumption)) | exact mO (nWord 0 wTransfer rfl (by decide) (by assumption)) | exact mO (nNum 1 wWho rfl (by decide) (by assumption)) | exact mO (nNum 2 wWhom rfl (by decide) (by assumption)) | exact mO (nNum 3 wAmount rfl (by decide) (by assumption)) | (have h := s2 (k := 3) (b := true) (W := wTransfer) (by decide) (by assumption) (by assumption) (by assumption) (by assumption) (by assumption); rw [show matchF ⟨3, [wTransfer, wWho, wWhom, wAmount], 0⟩ ws = _ from h]; rfl)))

theorem match_3 (m : GP) (ws : List Str) (hw : ∀ w ∈ ws, w.length ≤ 281474976710656) (hn : ws.length < 9223372036854775808) : Pure Tryd.prog (gl0 m) 31 [.agg [.int .i64 4, .str (bs wf3), .int .i64 0], wlA ws] (.tup [.agg (Cmd.cells ((matchF ⟨4, [wDeposit, wMerchant, wWho], 0⟩ ws).getD .zero)), .bool (matchF ⟨4, [wDeposit, wMerchant, wWho], 0⟩ ws).isSome]) := by
  have c0 := fields_3 m
  have f0 := fun c0 c1 c2 c3 c4 => field_0 m c0 c1 c2 c3 c4 wDeposit (fd _ (by decide)).1 (fd _ (by decide)).2.1 (fd _ (by decide)).2.2
  have f1 := fun c0 c1 c2 c3 c4 => field_0 m c0 c1 c2 c3 c4 wMerchant (fd _ (by decide)).1 (fd _ (by decide)).2.1 (fd _ (by decide)).2.2
  have n2 := number_c m (ws.getD 2 []) (getD_len hw)
  refine pure_sk (own := (owM 5)) Tryd.func31 (by kernel_rfl) mixed (by kernel_rfl)
    (.gc 46 ([]) ([AV.str (bs wf3)]) (AV.osl (0 : Nat) (1 : Nat) (0 : Nat) (3 : Nat)) ([some { es := (1 : Nat), n := (3 : Nat), mu := true, f := Rep.lst [[AV.str (bs wDeposit)], [AV.str (bs wMerchant)], [AV.str (bs wWho)]] }]) (.br ((↑(List.length ws) : Int) != (↑(3) : Int)) (.out (AV.tup [AV.agg [Zi 0, Zi 0, Zi 0, Zi 0, AV.bool false], AV.bool false]) [] (AV.tup [AV.agg (Cmd.cells (Option.getD (matchF { kind := (4 : Int), ws := [wDeposit, wMerchant, wWho], whom := (0 : Int) } ws) Cmd.zero)), AV.bool (Option.isSome (matchF { kind := (4 : Int), ws := [wDeposit, wMerchant, wWho], whom := (0 : Int) } ws))]) []) (.tt (.req ((0 : Int) ≤ (0 : Int) ∧ (0 : Int) < (↑(3) : Int)) (.gc 47 ([{ es := 5, n := 1, mu := true, f := Rep.lst [[Zi 4, Zi 0, Zi 0, Zi 0, AV.bool true]] }]) ([AV.own (0) (5) (0) (0) (5), AV.str (bs wDeposit)]) (AV.raw (Value.pointer none)) ([some { es := (5 : Nat), n := (1 : Nat), mu := true, f := Rep.lst [[Zi 4, Zi 0, Zi 0, Zi 0, AV.bool true]] }]) (.tt (.req ((0 : Int) ≤ (0 : Int) ∧ (0 : Int) < (↑(List.length ws) : Int)) (.br (!ByteArray.toList (bs (List.getD ws (Int.toNat (0 : Int)) [])) == ByteArray.toList (bs wDeposit)) (.out (AV.tup [AV.agg [Zi 0, Zi 0, Zi 0, Zi 0, AV.bool false], AV.bool false]) [] (AV.tup [AV.agg (Cmd.cells (Option.getD (matchF { kind := (4 : Int), ws := [wDeposit, wMerchant, wWho], whom := (0 : Int) } ws) Cmd.zero)), AV.bool (Option.isSome (matchF { kind := (4 : Int), ws := [wDeposit, wMerchant, wWho], whom := (0 : Int) } ws))]) []) (.tt (.req ((0 : Int) ≤ IntKind.wrap IntKind.i64 ((0 : Int) + (1 : Int)) ∧ IntKind.wrap IntKind.i64 ((0 : Int) + (1 : Int)) < (↑(3) : Int)) (.gc 47 ([{ es := 5, n := 1, mu := true, f := Rep.lst [[Zi 4, Zi 0, Zi 0, Zi 0, AV.bool true]] }]) ([AV.own (0) (5) (0) (0) (5), AV.str (bs wMerchant)]) (AV.raw (Value.pointer none)) ([some { es := (5 : Nat), n := (1 : Nat), mu := true, f := Rep.lst [[Zi 4, Zi 0, Zi 0, Zi 0, AV.bool true]] }]) (.tt (.req ((0 : Int) ≤ IntKind.wrap IntKind.i64 ((0 : Int) + (1 : Int)) ∧ IntKind.wrap IntKind.i64 ((0 : Int) + (1 : Int)) < (↑(List.length ws) : Int)) (.br (!ByteArray.toList (bs (List.getD ws (Int.toNat (IntKind.wrap IntKind.i64 ((0 : Int) + (1 : Int)))) [])) == ByteArray.toList (bs wMerchant)) (.out (AV.tup [AV.agg [Zi 0, Zi 0, Zi 0, Zi 0, AV.bool false], AV.bool false]) [] (AV.tup [AV.agg (Cmd.cells (Option.getD (matchF { kind := (4 : Int), ws := [wDeposit, wMerchant, wWho], whom := (0 : Int) } ws) Cmd.zero)), AV.bool (Option.isSome (matchF { kind := (4 : Int), ws := [wDeposit, wMerchant, wWho], whom := (0 : Int) } ws))]) []) (.tt (.req ((0 : Int) ≤ IntKind.wrap IntKind.i64 (IntKind.wrap IntKind.i64 ((0 : Int) + (1 : Int)) + (1 : Int)) ∧ IntKind.wrap IntKind.i64 (IntKind.wrap IntKind.i64 ((0 : Int) + (1 : Int)) + (1 : Int)) < (↑(3) : Int)) (.gc 47 ([{ es := 5, n := 1, mu := true, f := Rep.lst [[Zi 4, Zi 0, Zi 0, Zi 0, AV.bool true]] }]) ([AV.own (0) (5) (0) (0) (5), AV.str (bs wWho)]) (AV.own (0 : Nat) (5 : Nat) (0 : Nat) (1 : Nat) (1 : Nat)) ([some { es := (5 : Nat), n := (1 : Nat), mu := true, f := Rep.lst [[Zi 4, Zi 0, Zi 0, Zi 0, AV.bool true]] }]) (.ff (.req ((0 : Int) ≤ IntKind.wrap IntKind.i64 (IntKind.wrap IntKind.i64 ((0 : Int) + (1 : Int)) + (1 : Int)) ∧ IntKind.wrap IntKind.i64 (IntKind.wrap IntKind.i64 ((0 : Int) + (1 : Int)) + (1 : Int)) < (↑(List.length ws) : Int)) (.sc (true) 49 ([AV.str (bs (List.getD ws (2) []))]) (AV.tup [Zi (numVal (List.getD ws (2 : Nat) [])), AV.bool (Option.isSome (numC (List.getD ws (2 : Nat) [])))]) (.br (!Option.isSome (numC (List.getD ws (2) []))) (.out (AV.tup [AV.agg [Zi 0, Zi 0, Zi 0, Zi 0, AV.bool false], AV.bool false]) [] (AV.tup [AV.agg (Cmd.cells (Option.getD (matchF { kind := (4 : Int), ws := [wDeposit, wMerchant, wWho], whom := (0 : Int) } ws) Cmd.zero)), AV.bool (Option.isSome (matchF { kind := (4 : Int), ws := [wDeposit, wMerchant, wWho], whom := (0 : Int) } ws))]) []) (.ff (.out (AV.tup [AV.agg [Zi 4, Zi (numVal (List.getD ws (2) [])), Zi 0, Zi 0, AV.bool true], AV.bool true]) [] (AV.tup [AV.agg (Cmd.cells (Option.getD (matchF { kind := (4 : Int), ws := [wDeposit, wMerchant, wWho], whom := (0 : Int) } ws) Cmd.zero)), AV.bool (Option.isSome (matchF { kind := (4 : Int), ws := [wDeposit, wMerchant, wWho], whom := (0 : Int) } ws))]) [])))))))))))))))))))))))
    (by kernel_rfl) ?_
  refine k_gc (c0) ?_
  refine k_br (fun h1 => ?_) (fun h1 => ?_)
  · have g1 := cnd_bne_t h1
    exact k_out (Ent.of_eq (by first | exact mO (nLen 3 rfl (by assumption)) | exact mO (nWord 0 wDeposit rfl (by decide) (by assumption)) | exact mO (nWord 1 wMerchant rfl (by decide) (by assumption)) | exact mO (nNum 2 wWho rfl (by decide) (by assumption)) | (have h := s3 (k := 4) (m := 0) (b := true) (W := wDeposit) (V := wMerchant) (by decide) (by decide) (by assumption) (by assumption) (by assumption) (by assumption); rw [show matchF ⟨4, [wDeposit, wMerchant, wWho], 0⟩ ws = _ from h]; rfl)))
  · have g1 := cnd_bne_f h1
    refine k_tt ?_
    refine k_req ((by first | omega | decide | (rw [g1]; decide))) ?_
    refine k_gc (f0 ((4 : Int)) ((0 : Int)) ((0 : Int)) ((0 : Int)) (true)) ?_
    refine k_tt ?_
    refine k_req ((by first | omega | decide | (rw [g1]; decide))) ?_
    refine k_br (fun h8 => ?_) (fun h8 => ?_)
    · have g8 := (cnd_not_t cnd_id_f) h8
      exact k_out (Ent.of_eq (by first | exact mO (nLen 3 rfl (by assumption)) | exact mO (nWord 0 wDeposit rfl (by decide) (by assumption)) | exact mO (nWord 1 wMerchant rfl (by decide) (by assumption)) | exact mO (nNum 2 wWho rfl (by decide) (by assumption)) | (have h := s3 (k := 4) (m := 0) (b := true) (W := wDeposit) (V := wMerchant) (by decide) (by decide) (by assumption) (by assumption) (by assumption) (by assumption); rw [show matchF ⟨4, [wDeposit, wMerchant, wWho], 0⟩ ws = _ from h]; rfl)))
    · have g8 := (cnd_not_f cnd_id_t) h8
      refine k_tt ?_
      refine k_req ((by first | omega | decide | (rw [g1]; decide))) ?_
      refine k_gc (f1 ((4 : Int)) ((0 : Int)) ((0 : Int)) ((0 : Int)) (true)) ?_
      refine k_tt ?_
      refine k_req ((by first | omega | decide | (rw [g1]; decide))) ?_
      refine k_br (fun h15 => ?_) (fun h15 => ?_)
      · have g15 := (cnd_not_t cnd_id_f) h15
        exact k_out (Ent.of_eq (by first | exact mO (nLen 3 rfl (by assumption)) | exact mO (nWord 0 wDeposit rfl (by decide) (by assumption)) | exact mO (nWord 1 wMerchant rfl (by decide) (by assumption)) | exact mO (nNum 2 wWho rfl (by decide) (by assumption)) | (have h := s3 (k := 4) (m := 0) (b := true) (W := wDeposit) (V := wMerchant) (by decide) (by decide) (by assumption) (by assumption) (by assumption) (by assumption); rw [show matchF ⟨4, [wDeposit, wMerchant, wWho], 0⟩ ws = _ from h]; rfl)))
      · have g15 := (cnd_not_f cnd_id_t) h15
        refine k_tt ?_
        refine k_req ((by first | omega | decide | (rw [g1]; decide))) ?_
        refine k_gc ((field_1 m) ((4 : Int)) ((0 : Int)) ((0 : Int)) ((0 : Int)) (true)) ?_
        refine k_ff ?_
        refine k_req ((by first | omega | decide | (rw [g1]; decide))) ?_
        refine k_sc (n2) ?_
        refine k_br (fun h23 => ?_) (fun h23 => ?_)
        · have g23 := (cnd_not_t cnd_id_f) h23
          exact k_out (Ent.of_eq (by first | exact mO (nLen 3 rfl (by assumption)) | exact mO (nWord 0 wDeposit rfl (by decide) (by assumption)) | exact mO (nWord 1 wMerchant rfl (by decide) (by assumption)) | exact mO (nNum 2 wWho rfl (by decide) (by assumption)) | (have h := s3 (k := 4) (m := 0) (b := true) (W := wDeposit) (V := wMerchant) (by decide) (by decide) (by assumption) (by assumption) (by assumption) (by assumption); rw [show matchF ⟨4, [wDeposit, wMerchant, wWho], 0⟩ ws = _ from h]; rfl)))
        · have g23 := (cnd_not_f cnd_id_t) h23
          refine k_ff ?_
          exact k_out (Ent.of_eq (by first | exact mO (nLen 3 rfl (by assumption)) | exact mO (nWord 0 wDeposit rfl (by decide) (by assumption)) | exact mO (nWord 1 wMerchant rfl (by decide) (by assumption)) | exact mO (nNum 2 wWho rfl (by decide) (by assumption)) | (have h := s3 (k := 4) (m := 0) (b := true) (W := wDeposit) (V := wMerchant) (by decide) (by decide) (by assumption) (by assumption) (by assumption) (by assumption); rw [show matchF ⟨4, [wDeposit, wMerchant, wWho], 0⟩ ws = _ from h]; rfl)))

theorem match_4 (m : GP) (ws : List Str) (hw : ∀ w ∈ ws, w.length ≤ 281474976710656) (hn : ws.length < 9223372036854775808) : Pure Tryd.prog (gl0 m) 31 [.agg [.int .i64 4, .str (bs wf4), .int .i64 1], wlA ws] (.tup [.agg (Cmd.cells ((matchF ⟨4, [wDeposit, wHolder, wWho], 1⟩ ws).getD .zero)), .bool (matchF ⟨4, [wDeposit, wHolder, wWho], 1⟩ ws).isSome]) := by
  have c0 := fields_4 m
  have f0 := fun c0 c1 c2 c3 c4 => field_0 m c0 c1 c2 c3 c4 wDeposit (fd _ (by decide)).1 (fd _ (by decide)).2.1 (fd _ (by decide)).2.2
  have f1 := fun c0 c1 c2 c3 c4 => field_0 m c0 c1 c2 c3 c4 wHolder (fd _ (by decide)).1 (fd _ (by decide)).2.1 (fd _ (by decide)).2.2
  have n2 := number_c m (ws.getD 2 []) (getD_len hw)
  refine pure_sk (own := (owM 5)) Tryd.func31 (by kernel_rfl) mixed (by kernel_rfl)
    (.gc 46 ([]) ([AV.str (bs wf4)]) (AV.osl (0 : Nat) (1 : Nat) (0 : Nat) (3 : Nat)) ([some { es := (1 : Nat), n := (3 : Nat), mu := true, f := Rep.lst [[AV.str (bs wDeposit)], [AV.str (bs wHolder)], [AV.str (bs wWho)]] }]) (.br ((↑(List.length ws) : Int) != (↑(3) : Int)) (.out (AV.tup [AV.agg [Zi 0, Zi 0, Zi 0, Zi 0, AV.bool false], AV.bool false]) [] (AV.tup [AV.agg (Cmd.cells (Option.getD (matchF { kind := (4 : Int), ws := [wDeposit, wHolder, wWho], whom := (1 : Int) } ws) Cmd.zero)), AV.bool (Option.isSome (matchF { kind := (4 : Int), ws := [wDeposit, wHolder, wWho], whom := (1 : Int) } ws))]) []) (.tt (.req ((0 : Int) ≤ (0 : Int) ∧ (0 : Int) < (↑(3) : Int)) (.gc 47 ([{ es := 5, n := 1, mu := true, f := Rep.lst [[Zi 4, Zi 0, Zi 1, Zi 0, AV.bool true]] }]) ([AV.own (0) (5) (0) (0) (5), AV.str (bs wDeposit)]) (AV.raw (Value.pointer none)) ([some { es := (5 : Nat), n := (1 : Nat), mu := true, f := Rep.lst [[Zi 4, Zi 0, Zi 1, Zi 0, AV.bool true]] }]) (.tt (.req ((0 : Int) ≤ (0 : Int) ∧ (0 : Int) < (↑(List.length ws) : Int)) (.br (!ByteArray.toList (bs (List.getD ws (Int.toNat (0 : Int)) [])) == ByteArray.toList (bs wDeposit)) (.out (AV.tup [AV.agg [Zi 0, Zi 0, Zi 0, Zi 0, AV.bool false], AV.bool false]) [] (AV.tup [AV.agg (Cmd.cells (Option.getD (matchF { kind := (4 : Int), ws := [wDeposit, wHolder, wWho], whom := (1 : Int) } ws) Cmd.zero)), AV.bool (Option.isSome (matchF { kind := (4 : Int), ws := [wDeposit, wHolder, wWho], whom := (1 : Int) } ws))]) []) (.tt (.req ((0 : Int) ≤ IntKind.wrap IntKind.i64 ((0 : Int) + (1 : Int)) ∧ IntKind.wrap IntKind.i64 ((0 : Int) + (1 : Int)) < (↑(3) : Int)) (.gc 47 ([{ es := 5, n := 1, mu := true, f := Rep.lst [[Zi 4, Zi 0, Zi 1, Zi 0, AV.bool true]] }]) ([AV.own (0) (5) (0) (0) (5), AV.str (bs wHolder)]) (AV.raw (Value.pointer none)) ([some { es := (5 : Nat), n := (1 : Nat), mu := true, f := Rep.lst [[Zi 4, Zi 0, Zi 1, Zi 0, AV.bool true]] }]) (.tt (.req ((0 : Int) ≤ IntKind.wrap IntKind.i64 ((0 : Int) + (1 : Int)) ∧ IntKind.wrap IntKind.i64 ((0 : Int) + (1 : Int)) < (↑(List.length ws) : Int)) (.br (!ByteArray.toList (bs (List.getD ws (Int.toNat (IntKind.wrap IntKind.i64 ((0 : Int) + (1 : Int)))) [])) == ByteArray.toList (bs wHolder)) (.out (AV.tup [AV.agg [Zi 0, Zi 0, Zi 0, Zi 0, AV.bool false], AV.bool false]) [] (AV.tup [AV.agg (Cmd.cells (Option.getD (matchF { kind := (4 : Int), ws := [wDeposit, wHolder, wWho], whom := (1 : Int) } ws) Cmd.zero)), AV.bool (Option.isSome (matchF { kind := (4 : Int), ws := [wDeposit, wHolder, wWho], whom := (1 : Int) } ws))]) []) (.tt (.req ((0 : Int) ≤ IntKind.wrap IntKind.i64 (IntKind.wrap IntKind.i64 ((0 : Int) + (1 : Int)) + (1 : Int)) ∧ IntKind.wrap IntKind.i64 (IntKind.wrap IntKind.i64 ((0 : Int) + (1 : Int)) + (1 : Int)) < (↑(3) : Int)) (.gc 47 ([{ es := 5, n := 1, mu := true, f := Rep.lst [[Zi 4, Zi 0, Zi 1, Zi 0, AV.bool true]] }]) ([AV.own (0) (5) (0) (0) (5), AV.str (bs wWho)]) (AV.own (0 : Nat) (5 : Nat) (0 : Nat) (1 : Nat) (1 : Nat)) ([some { es := (5 : Nat), n := (1 : Nat), mu := true, f := Rep.lst [[Zi 4, Zi 0, Zi 1, Zi 0, AV.bool true]] }]) (.ff (.req ((0 : Int) ≤ IntKind.wrap IntKind.i64 (IntKind.wrap IntKind.i64 ((0 : Int) + (1 : Int)) + (1 : Int)) ∧ IntKind.wrap IntKind.i64 (IntKind.wrap IntKind.i64 ((0 : Int) + (1 : Int)) + (1 : Int)) < (↑(List.length ws) : Int)) (.sc (true) 49 ([AV.str (bs (List.getD ws (2) []))]) (AV.tup [Zi (numVal (List.getD ws (2 : Nat) [])), AV.bool (Option.isSome (numC (List.getD ws (2 : Nat) [])))]) (.br (!Option.isSome (numC (List.getD ws (2) []))) (.out (AV.tup [AV.agg [Zi 0, Zi 0, Zi 0, Zi 0, AV.bool false], AV.bool false]) [] (AV.tup [AV.agg (Cmd.cells (Option.getD (matchF { kind := (4 : Int), ws := [wDeposit, wHolder, wWho], whom := (1 : Int) } ws) Cmd.zero)), AV.bool (Option.isSome (matchF { kind := (4 : Int), ws := [wDeposit, wHolder, wWho], whom := (1 : Int) } ws))]) []) (.ff (.out (AV.tup [AV.agg [Zi 4, Zi (numVal (List.getD ws (2) [])), Zi 1, Zi 0, AV.bool true], AV.bool true]) [] (AV.tup [AV.agg (Cmd.cells (Option.getD (matchF { kind := (4 : Int), ws := [wDeposit, wHolder, wWho], whom := (1 : Int) } ws) Cmd.zero)), AV.bool (Option.isSome (matchF { kind := (4 : Int), ws := [wDeposit, wHolder, wWho], whom := (1 : Int) } ws))]) [])))))))))))))))))))))))
    (by kernel_rfl) ?_
  refine k_gc (c0) ?_
  refine k_br (fun h1 => ?_) (fun h1 => ?_)
  · have g1 := cnd_bne_t h1
    exact k_out (Ent.of_eq (by first | exact mO (nLen 3 rfl (by assumption)) | exact mO (nWord 0 wDeposit rfl (by decide) (by assumption)) | exact mO (nWord 1 wHolder rfl (by decide) (by assumption)) | exact mO (nNum 2 wWho rfl (by decide) (by assumption)) | (have h := s3 (k := 4) (m := 1) (b := true) (W := wDeposit) (V := wHolder) (by decide) (by decide) (by assumption) (by assumption) (by assumption) (by assumption); rw [show matchF ⟨4, [wDeposit, wHolder, wWho], 1⟩ ws = _ from h]; rfl)))
  · have g1 := cnd_bne_f h1
    refine k_tt ?_
    refine k_req ((by first | omega | decide | (rw [g1]; decide))) ?_
    refine k_gc (f0 ((4 : Int)) ((0 : Int)) ((1 : Int)) ((0 : Int)) (true)) ?_
    refine k_tt ?_
    refine k_req ((by first | omega | decide | (rw [g1]; decide))) ?_
    refine k_br (fun h8 => ?_) (fun h8 => ?_)
    · have g8 := (cnd_not_t cnd_id_f) h8
      exact k_out (Ent.of_eq (by first | exact mO (nLen 3 rfl (by assumption)) | exact mO (nWord 0 wDeposit rfl (by decide) (by assumption)) | exact mO (nWord 1 wHolder rfl (by decide) (by assumption)) | exact mO (nNum 2 wWho rfl (by decide) (by assumption)) | (have h := s3 (k := 4) (m := 1) (b := true) (W := wDeposit) (V := wHolder) (by decide) (by decide) (by assumption) (by assumption) (by assumption) (by assumption); rw [show matchF ⟨4, [wDeposit, wHolder, wWho], 1⟩ ws = _ from h]; rfl)))
    · have g8 := (cnd_not_f cnd_id_t) h8
      refine k_tt ?_
      refine k_req ((by first | omega | decide | (rw [g1]; decide))) ?_
      refine k_gc (f1 ((4 : Int)) ((0 : Int)) ((1 : Int)) ((0 : Int)) (true)) ?_
      refine k_tt ?_
      refine k_req ((by first | omega | decide | (rw [g1]; decide))) ?_
      refine k_br (fun h15 => ?_) (fun h15 => ?_)
      · have g15 := (cnd_not_t cnd_id_f) h15
        exact k_out (Ent.of_eq (by first | exact mO (nLen 3 rfl (by assumption)) | exact mO (nWord 0 wDeposit rfl (by decide) (by assumption)) | exact mO (nWord 1 wHolder rfl (by decide) (by assumption)) | exact mO (nNum 2 wWho rfl (by decide) (by assumption)) | (have h := s3 (k := 4) (m := 1) (b := true) (W := wDeposit) (V := wHolder) (by decide) (by decide) (by assumption) (by assumption) (by assumption) (by assumption); rw [show matchF ⟨4, [wDeposit, wHolder, wWho], 1⟩ ws = _ from h]; rfl)))
      · have g15 := (cnd_not_f cnd_id_t) h15
        refine k_tt ?_
        refine k_req ((by first | omega | decide | (rw [g1]; decide))) ?_
        refine k_gc ((field_1 m) ((4 : Int)) ((0 : Int)) ((1 : Int)) ((0 : Int)) (true)) ?_
        refine k_ff ?_
        refine k_req ((by first | omega | decide | (rw [g1]; decide))) ?_
        refine k_sc (n2) ?_
        refine k_br (fun h23 => ?_) (fun h23 => ?_)
        · have g23 := (cnd_not_t cnd_id_f) h23
          exact k_out (Ent.of_eq (by first | exact mO (nLen 3 rfl (by assumption)) | exact mO (nWord 0 wDeposit rfl (by decide) (by assumption)) | exact mO (nWord 1 wHolder rfl (by decide) (by assumption)) | exact mO (nNum 2 wWho rfl (by decide) (by assumption)) | (have h := s3 (k := 4) (m := 1) (b := true) (W := wDeposit) (V := wHolder) (by decide) (by decide) (by assumption) (by assumption) (by assumption) (by assumption); rw [show matchF ⟨4, [wDeposit, wHolder, wWho], 1⟩ ws = _ from h]; rfl)))
        · have g23 := (cnd_not_f cnd_id_t) h23
          refine k_ff ?_
          exact k_out (Ent.of_eq (by first | exact mO (nLen 3 rfl (by assumption)) | exact mO (nWord 0 wDeposit rfl (by decide) (by assumption)) | exact mO (nWord 1 wHolder rfl (by decide) (by assumption)) | exact mO (nNum 2 wWho rfl (by decide) (by assumption)) | (have h := s3 (k := 4) (m := 1) (b := true) (W := wDeposit) (V := wHolder) (by decide) (by decide) (by assumption) (by assumption) (by assumption) (by assumption); rw [show matchF ⟨4, [wDeposit, wHolder, wWho], 1⟩ ws = _ from h]; rfl)))

theorem match_5 (m : GP) (ws : List Str) (hw : ∀ w ∈ ws, w.length ≤ 281474976710656) (hn : ws.length < 9223372036854775808) : Pure Tryd.prog (gl0 m) 31 [.agg [.int .i64 5, .str (bs wf5), .int .i64 0], wlA ws] (.tup [.agg (Cmd.cells ((matchF ⟨5, [wDouble, wWho, wWhom, wAmount], 0⟩ ws).getD .zero)), .bool (matchF ⟨5, [wDouble, wWho, wWhom, wAmount], 0⟩ ws).isSome]) := by
  have c0 := fields_5 m
  have f0 := fun c0 c1 c2 c3 c4 => field_0 m c0 c1 c2 c3 c4 wDouble (fd _ (by decide)).1 (fd _ (by decide)).2.1 (fd _ (by decide)).2.2
  have n1 := number_c m (ws.getD 1 []) (getD_len hw)
  have n2 := number_c m (ws.getD 2 []) (getD_len hw)
  have n3 := number_c m (ws.getD 3 []) (getD_len hw)
  refine pure_sk (own := (owM 5)) Tryd.func31 (by kernel_rfl) mixed (by kernel_rfl)
    (.gc 46 ([]) ([AV.str (bs wf5)]) (AV.osl (0 : Nat) (1 : Nat) (0 : Nat) (4 : Nat)) ([some { es := (1 : Nat), n := (4 : Nat), mu := true, f := Rep.lst [[AV.str (bs wDouble)], [AV.str (bs wWho)], [AV.str (bs wWhom)], [AV.str (bs wAmount)]] }]) (.br ((↑(List.length ws) : Int) != (↑(4) : Int)) (.out (AV.tup [AV.agg [Zi 0, Zi 0, Zi 0, Zi 0, AV.bool false], AV.bool false]) [] (AV.tup [AV.agg (Cmd.cells (Option.getD (matchF { kind := (5 : Int), ws := [wDouble, wWho, wWhom, wAmount], whom := (0 : Int) } ws) Cmd.zero)), AV.bool (Option.isSome (matchF { kind := (5 : Int), ws := [wDouble, wWho, wWhom, wAmount], whom := (0 : Int) } ws))]) []) (.tt (.req ((0 : Int) ≤ (0 : Int) ∧ (0 : Int) < (↑(4) : Int)) (.gc 47 ([{ es := 5, n := 1, mu := true, f := Rep.lst [[Zi 5, Zi 0, Zi 0, Zi 0, AV.bool false]] }]) ([AV.own (0) (5) (0) (0) (5), AV.str (bs wDouble)]) (AV.raw (Value.pointer none)) ([some { es := (5 : Nat), n := (1 : Nat), mu := true, f := Rep.lst [[Zi 5, Zi 0, Zi 0, Zi 0, AV.bool false]] }]) (.tt (.req ((0 : Int) ≤ (0 : Int) ∧ (0 : Int) < (↑(List.length ws) : Int)) (.br (!ByteArray.toList (bs (List.getD ws (Int.toNat (0 : Int)) [])) == ByteArray.toList (bs wDouble)) (.out (AV.tup [AV.agg [Zi 0, Zi 0, Zi 0, Zi 0, AV.bool false], AV.bool false]) [] (AV.tup [AV.agg (Cmd.cells (Option.getD (matchF { kind := (5 : Int), ws := [wDouble, wWho, wWhom, wAmount], whom := (0 : Int) } ws) Cmd.zero)), AV.bool (Option.isSome (matchF { kind := (5 : Int), ws := [wDouble, wWho, wWhom, wAmount], whom := (0 : Int) } ws))]) []) (.tt (.req ((0 : Int) ≤ IntKind.wrap IntKind.i64 ((0 : Int) + (1 : Int)) ∧ IntKind.wrap IntKind.i64 ((0 : Int) + (1 : Int)) < (↑(4) : Int)) (.gc 47 ([{ es := 5, n := 1, mu := true, f := Rep.lst [[Zi 5, Zi 0, Zi 0, Zi 0, AV.bool false]] }]) ([AV.own (0) (5) (0) (0) (5), AV.str (bs wWho)]) (AV.own (0 : Nat) (5 : Nat) (0 : Nat) (1 : Nat) (1 : Nat)) ([some { es := (5 : Nat), n := (1 : Nat), mu := true, f := Rep.lst [[Zi 5, Zi 0, Zi 0, Zi 0, AV.bool false]] }]) (.ff (.req ((0 : Int) ≤ IntKind.wrap IntKind.i64 ((0 : Int) + (1 : Int)) ∧ IntKind.wrap IntKind.i64 ((0 : Int) + (1 : Int)) < (↑(List.length ws) : Int)) (.sc (true) 49 ([AV.str (bs (List.getD ws (1) []))]) (AV.tup [Zi (numVal (List.getD ws (1 : Nat) [])), AV.bool (Option.isSome (numC (List.getD ws (1 : Nat) [])))]) (.br (!Option.isSome (numC (List.getD ws (1) []))) (.out (AV.tup [AV.agg [Zi 0, Zi 0, Zi 0, Zi 0, AV.bool false], AV.bool false]) [] (AV.tup [AV.agg (Cmd.cells (Option.getD (matchF { kind := (5 : Int), ws := [wDouble, wWho, wWhom, wAmount], whom := (0 : Int) } ws) Cmd.zero)), AV.bool (Option.isSome (matchF { kind := (5 : Int), ws := [wDouble, wWho, wWhom, wAmount], whom := (0 : Int) } ws))]) []) (.tt (.req ((0 : Int) ≤ IntKind.wrap IntKind.i64 (IntKind.wrap IntKind.i64 ((0 : Int) + (1 : Int)) + (1 : Int)) ∧ IntKind.wrap IntKind.i64 (IntKind.wrap IntKind.i64 ((0 : Int) + (1 : Int)) + (1 : Int)) < (↑(4) : Int)) (.gc 47 ([{ es := 5, n := 1, mu := true, f := Rep.lst [[Zi 5, Zi (numVal (List.getD ws (1 : Nat) [])), Zi 0, Zi 0, AV.bool false]] }]) ([AV.own (0) (5) (0) (0) (5), AV.str (bs wWhom)]) (AV.own (0 : Nat) (5 : Nat) (0 : Nat) (2 : Nat) (1 : Nat)) ([some { es := (5 : Nat), n := (1 : Nat), mu := true, f := Rep.lst [[Zi 5, Zi (numVal (List.getD ws (1 : Nat) [])), Zi 0, Zi 0, AV.bool false]] }]) (.ff (.req ((0 : Int) ≤ IntKind.wrap IntKind.i64 (IntKind.wrap IntKind.i64 ((0 : Int) + (1 : Int)) + (1 : Int)) ∧ IntKind.wrap IntKind.i64 (IntKind.wrap IntKind.i64 ((0 : Int) + (1 : Int)) + (1 : Int)) < (↑(List.length ws) : Int)) (.sc (true) 49 ([AV.str (bs (List.getD ws (2) []))]) (AV.tup [Zi (numVal (List.getD ws (2 : Nat) [])), AV.bool (Option.isSome (numC (List.getD ws (2 : Nat) [])))]) (.br (!Option.isSome (numC (List.getD ws (2) []))) (.out (AV.tup [AV.agg [Zi 0, Zi 0, Zi 0, Zi 0, AV.bool false], AV.bool false]) [] (AV.tup [AV.agg (Cmd.cells (Option.getD (matchF { kind := (5 : Int), ws := [wDouble, wWho, wWhom, wAmount], whom := (0 : Int) } ws) Cmd.zero)), AV.bool (Option.isSome (matchF { kind := (5 : Int), ws := [wDouble, wWho, wWhom, wAmount], whom := (0 : Int) } ws))]) []) (.tt (.req ((0 : Int) ≤ IntKind.wrap IntKind.i64 (IntKind.wrap IntKind.i64 (IntKind.wrap IntKind.i64 ((0 : Int) + (1 : Int)) + (1 : Int)) + (1 : Int)) ∧ IntKind.wrap IntKind.i64 (IntKind.wrap IntKind.i64 (IntKind.wrap IntKind.i64 ((0 : Int) + (1 : Int)) + (1 : Int)) + (1 : Int)) < (↑(4) : Int)) (.gc 47 ([{ es := 5, n := 1, mu := true, f := Rep.lst [[Zi 5, Zi (numVal (List.getD ws (1 : Nat) [])), Zi (numVal (List.getD ws (2 : Nat) [])), Zi 0, AV.bool false]] }]) ([AV.own (0) (5) (0) (0) (5), AV.str (bs wAmount)]) (AV.own (0 : Nat) (5 : Nat) (0 : Nat) (3 : Nat) (1 : Nat)) ([some { es := (5 : Nat), n := (1 : Nat), mu := true, f := Rep.lst [[Zi 5, Zi (numVal (List.getD ws (1 : Nat) [])), Zi (numVal (List.getD ws (2 : Nat) [])), Zi 0, AV.bool false]] }]) (.ff (.req ((0 : Int) ≤ IntKind.wrap IntKind.i64 (IntKind.wrap IntKind.i64 (IntKind.wrap IntKind.i64 ((0 : Int) + (1 : Int)) + (1 : Int)) + (1 : Int)) ∧ IntKind.wrap IntKind.i64 (IntKind.wrap IntKind.i64 (IntKind.wrap IntKind.i64 ((0 : Int) + (1 : Int)) + (1 : Int)) + (1 : Int)) < (↑(List.length ws) : Int)) (.sc (true) 49 ([AV.str (bs (List.getD ws (3) []))]) (AV.tup [Zi (numVal (List.getD ws (3 : Nat) [])), AV.bool (Option.isSome (numC (List.getD ws (3 : Nat) [])))]) (.br (!Option.isSome (numC (List.getD ws (3) []))) (.out (AV.tup [AV.agg [Zi 0, Zi 0, Zi 0, Zi 0, AV.bool false], AV.bool false]) [] (AV.tup [AV.agg (Cmd.cells (Option.getD (matchF { kind := (5 : Int), ws := [wDouble, wWho, wWhom, wAmount], whom := (0 : Int) } ws) Cmd.zero)), AV.bool (Option.isSome (matchF { kind := (5 : Int), ws := [wDouble, wWho, wWhom, wAmount], whom := (0 : Int) } ws))]) []) (.ff (.out (AV.tup [AV.agg [Zi 5, Zi (numVal (List.getD ws (1) [])), Zi (numVal (List.getD ws (2) [])), Zi (numVal (List.getD ws (3) [])), AV.bool false], AV.bool true]) [] (AV.tup [AV.agg (Cmd.cells (Option.getD (matchF { kind := (5 : Int), ws := [wDouble, wWho, wWhom, wAmount], whom := (0 : Int) } ws) Cmd.zero)), AV.bool (Option.isSome (matchF { kind := (5 : Int), ws := [wDouble, wWho, wWhom, wAmount], whom := (0 : Int) } ws))]) [])))))))))))))))))))))))))))))))
    (by kernel_rfl) ?_
  refine k_gc (c0) ?_
  refine k_br (fun h1 => ?_) (fun h1 => ?_)
  · have g1 := cnd_bne_t h1
    exact k_out (Ent.of_eq (by first | exact mO (nLen 4 rfl (by assumption)) | exact mO (nWord 0 wDouble rfl (by decide) (by assumption)) | exact mO (nNum 1 wWho rfl (by decide) (by assumption)) | exact mO (nNum 2 wWhom rfl (by decide) (by assumption)) | exact mO (nNum 3 wAmount rfl (by decide) (by assumption)) | (have h := s2 (k := 5) (b := false) (W := wDouble) (by decide) (by assumption) (by assumption) (by assumption) (by assumption) (by assumption); rw [show matchF ⟨5, [wDouble, wWho, wWhom, wAmount], 0⟩ ws = _ from h]; rfl)))
  · have g1 := cnd_bne_f h1
    refine k_tt ?_
    refine k_req ((by first | omega | decide | (rw [g1]; decide))) ?_
    refine k_gc (f0 ((5 : Int)) ((0 : Int)) ((0 : Int)) ((0 : Int)) (false)) ?_
    refine k_tt ?_
    refine k_req ((by first | omega | decide | (rw [g1]; decide))) ?_
    refine k_br (fun h8 => ?_) (fun h8 => ?_)
    · have g8 := (cnd_not_t cnd_id_f) h8
      exact k_out (Ent.of_eq (by first | exact mO (nLen 4 rfl (by assumption)) | exact mO (nWord 0 wDouble rfl (by decide) (by assumption)) | exact mO (nNum 1 wWho rfl (by decide) (by assumption)) | exact mO (nNum 2 wWhom rfl (by decide) (by assumption)) | exact mO (nNum 3 wAmount rfl (by decide) (by assumption)) | (have h := s2 (k := 5) (b := false) (W := wDouble) (by decide) (by assumption) (by assumption) (by assumption) (by assumption) (by assumption); rw [show matchF ⟨5, [wDouble, wWho, wWhom, wAmount], 0⟩ ws = _ from h]; rfl)))
    · have g8 := (cnd_not_f cnd_id_t) h8
      refine k_tt ?_
      refine k_req ((by first | omega | decide | (rw [g1]; decide))) ?_
      refine k_gc ((field_1 m) ((5 : Int)) ((0 : Int)) ((0 : Int)) ((0 : Int)) (false)) ?_
      refine k_ff ?_
      refine k_req ((by first | omega | decide | (rw [g1]; decide))) ?_
      refine k_sc (n1) ?_
      refine k_br (fun h16 => ?_) (fun h16 => ?_)
      · have g16 := (cnd_not_t cnd_id_f) h16
        exact k_out (Ent.of_eq (by first | exact mO (nLen 4 rfl (by assumption)) | exact mO (nWord 0 wDouble rfl (by decide) (by assumption)) | exact mO (nNum 1 wWho rfl (by decide) (by assumption)) | exact mO (nNum 2 wWhom rfl (by decide) (by assumption)) | exact mO (nNum 3 wAmount rfl (by decide) (by assumption)) | (have h := s2 (k := 5) (b := false) (W := wDouble) (by decide) (by assumption) (by assumption) (by assumption) (by assumption) (by assumption); rw [show matchF ⟨5, [wDouble, wWho, wWhom, wAmount], 0⟩ ws = _ from h]; rfl)))
      · have g16 := (cnd_not_f cnd_id_t) h16
        refine k_tt ?_
        refine k_req ((by first | omega | decide | (rw [g1]; decide))) ?_
        refine k_gc ((field_2 m) ((5 : Int)) (numVal (List.getD ws (1 : Nat) [])) ((0 : Int)) ((0 : Int)) (false)) ?_
        refine k_ff ?_
        refine k_req ((by first | omega | decide | (rw [g1]; decide))) ?_
        refine k_sc (n2) ?_
        refine k_br (fun h24 => ?_) (fun h24 => ?_)
        · have g24 := (cnd_not_t cnd_id_f) h24
          exact k_out (Ent.of_eq (by first | exact mO (nLen 4 rfl (by assumption)) | exact mO (nWord 0 wDouble rfl (by decide) (by assumption)) | exact mO (nNum 1 wWho rfl (by decide) (by assumption)) | exact mO (nNum 2 wWhom rfl (by decide) (by assumption)) | exact mO (nNum 3 wAmount rfl (by decide) (by assumption)) | (have h := s2 (k := 5) (b := false) (W := wDouble) (by decide) (by assumption) (by assumption) (by assumption) (by assumption) (by assumption); rw [show matchF ⟨5, [wDouble, wWho, wWhom, wAmount], 0⟩ ws = _ from h]; rfl)))
        · have g24 := (cnd_not_f cnd_id_t) h24
          refine k_tt ?_
          refine k_req ((by first | omega | decide | (rw [g1]; decide))) ?_
          refine k_gc ((field_3 m) ((5 : Int)) (numVal (List.getD ws (1 : Nat) [])) (numVal (List.getD ws (2 : Nat) [])) ((0 : Int)) (false)) ?_
          refine k_ff ?_
          refine k_req ((by first | omega | decide | (rw [g1]; decide))) ?_
          refine k_sc (n3) ?_
          refine k_br (fun h32 => ?_) (fun h32 => ?_)
          · have g32 := (cnd_not_t cnd_id_f) h32
            exact k_out (Ent.of_eq (by first | exact mO (nLen 4 rfl (by assumption)) | exact mO (nWord 0 wDouble rfl (by decide) (by assumption)) | exact mO (nNum 1 wWho rfl (by decide) (by assumption)) | exact mO (nNum 2 wWhom rfl (by decide) (by assumption)) | exact mO (nNum 3 wAmount rfl (by decide) (by assumption)) | (have h := s2 (k := 5) (b := false) (W := wDouble) (by decide) (by assumption) (by assumption) (by assumption) (by assumption) (by assumption); rw [show matchF ⟨5, [wDouble, wWho, wWhom, wAmount], 0⟩ ws = _ from h]; rfl)))
          · have g32 := (cnd_not_f cnd_id_t) h32
            refine k_ff ?_
            exact k_out (Ent.of_eq (by first | exact mO (nLen 4 rfl (by assumption)) | exact mO (nWord 0 wDouble rfl (by decide) (by assumption)) | exact mO (nNum 1 wWho rfl (by decide) (by assumption)) | exact mO (nNum 2 wWhom rfl (by decide) (by assumption)) | exact mO (nNum 3 wAmount rfl (by decide) (by assumption)) | (have h := s2 (k := 5) (b := false) (W := wDouble) (by decide) (by assumption) (by assumption) (by assumption) (by assumption) (by assumption); rw [show matchF ⟨5, [wDouble, wWho, wWhom, wAmount], 0⟩ ws = _ from h]; rfl)))

theorem match_6 (m : GP) (ws : List Str) (hw : ∀ w ∈ ws, w.length ≤ 281474976710656) (hn : ws.length < 9223372036854775808) : Pure Tryd.prog (gl0 m) 31 [.agg [.int .i64 6, .str (bs wf6), .int .i64 0], wlA ws] (.tup [.agg (Cmd.cells ((matchF ⟨6, [wTrace, wWho], 0⟩ ws).getD .zero)), .bool (matchF ⟨6, [wTrace, wWho], 0⟩ ws).isSome]) := by
  have c0 := fields_6 m
  have f0 := fun c0 c1 c2 c3 c4 => field_0 m c0 c1 c2 c3 c4 wTrace (fd _ (by decide)).1 (fd _ (by decide)).2.1 (fd _ (by decide)).2.2
  have n1 := number_c m (ws.getD 1 []) (getD_len hw)
  refine pure_sk (own := (owM 5)) Tryd.func31 (by kernel_rfl) mixed (by kernel_rfl)
    (.gc 46 ([]) ([AV.str (bs wf6)]) (AV.osl (0 : Nat) (1 : Nat) (0 : Nat) (2 : Nat)) ([some { es := (1 : Nat), n := (2 : Nat), mu := true, f := Rep.lst [[AV.str (bs wTrace)], [AV.str (bs wWho)]] }]) (.br ((↑(List.length ws) : Int) != (↑(2) : Int)) (.out (AV.tup [AV.agg [Zi 0, Zi 0, Zi 0, Zi 0, AV.bool false], AV.bool false]) [] (AV.tup [AV.agg (Cmd.cells (Option.getD (matchF { kind := (6 : Int), ws := [wTrace, wWho], whom := (0 : Int) } ws) Cmd.zero)), AV.bool (Option.isSome (matchF { kind := (6 : Int), ws := [wTrace, wWho], whom := (0 : Int) } ws))]) []) (.tt (.req ((0 : Int) ≤ (0 : Int) ∧ (0 : Int) < (↑(2) : Int)) (.gc 47 ([{ es := 5, n := 1, mu := true, f := Rep.lst [[Zi 6, Zi 0, Zi 0, Zi 0, AV.bool true]] }]) ([AV.own (0) (5) (0) (0) (5), AV.str (bs wTrace)]) (AV.raw (Value.pointer none)) ([some { es := (5 : Nat), n := (1 : Nat), mu := true, f := Rep.lst [[Zi 6, Zi 0, Zi 0, Zi 0, AV.bool true]] }]) (.tt (.req ((0 : Int) ≤ (0 : Int) ∧ (0 : Int) < (↑(List.length ws) : Int)) (.br (!ByteArray.toList (bs (List.getD ws (Int.toNat (0 : Int)) [])) == ByteArray.toList (bs wTrace)) (.out (AV.tup [AV.agg [Zi 0, Zi 0, Zi 0, Zi 0, AV.bool false], AV.bool false]) [] (AV.tup [AV.agg (Cmd.cells (Option.getD (matchF { kind := (6 : Int), ws := [wTrace, wWho], whom := (0 : Int) } ws) Cmd.zero)), AV.bool (Option.isSome (matchF { kind := (6 : Int), ws := [wTrace, wWho], whom := (0 : Int) } ws))]) []) (.tt (.req ((0 : Int) ≤ IntKind.wrap IntKind.i64 ((0 : Int) + (1 : Int)) ∧ IntKind.wrap IntKind.i64 ((0 : Int) + (1 : Int)) < (↑(2) : Int)) (.gc 47 ([{ es := 5, n := 1, mu := true, f := Rep.lst [[Zi 6, Zi 0, Zi 0, Zi 0, AV.bool true]] }]) ([AV.own (0) (5) (0) (0) (5), AV.str (bs wWho)]) (AV.own (0 : Nat) (5 : Nat) (0 : Nat) (1 : Nat) (1 : Nat)) ([some { es := (5 : Nat), n := (1 : Nat), mu := true, f := Rep.lst [[Zi 6, Zi 0, Zi 0, Zi 0, AV.bool true]] }]) (.ff (.req ((0 : Int) ≤ IntKind.wrap IntKind.i64 ((0 : Int) + (1 : Int)) ∧ IntKind.wrap IntKind.i64 ((0 : Int) + (1 : Int)) < (↑(List.length ws) : Int)) (.sc (true) 49 ([AV.str (bs (List.getD ws (1) []))]) (AV.tup [Zi (numVal (List.getD ws (1 : Nat) [])), AV.bool (Option.isSome (numC (List.getD ws (1 : Nat) [])))]) (.br (!Option.isSome (numC (List.getD ws (1) []))) (.out (AV.tup [AV.agg [Zi 0, Zi 0, Zi 0, Zi 0, AV.bool false], AV.bool false]) [] (AV.tup [AV.agg (Cmd.cells (Option.getD (matchF { kind := (6 : Int), ws := [wTrace, wWho], whom := (0 : Int) } ws) Cmd.zero)), AV.bool (Option.isSome (matchF { kind := (6 : Int), ws := [wTrace, wWho], whom := (0 : Int) } ws))]) []) (.ff (.out (AV.tup [AV.agg [Zi 6, Zi (numVal (List.getD ws (1) [])), Zi 0, Zi 0, AV.bool true], AV.bool true]) [] (AV.tup [AV.agg (Cmd.cells (Option.getD (matchF { kind := (6 : Int), ws := [wTrace, wWho], whom := (0 : Int) } ws) Cmd.zero)), AV.bool (Option.isSome (matchF { kind := (6 : Int), ws := [wTrace, wWho], whom := (0 : Int) } ws))]) [])))))))))))))))))
    (by kernel_rfl) ?_
  refine k_gc (c0) ?_
  refine k_br (fun h1 => ?_) (fun h1 => ?_)
  · have g1 := cnd_bne_t h1
    exact k_out (Ent.of_eq (by first | exact mO (nLen 2 rfl (by assumption)) | exact mO (nWord 0 wTrace rfl (by decide) (by assumption)) | exact mO (nNum 1 wWho rfl (by decide) (by assumption)) | (have h := s4 (k := 6) (b := true) (W := wTrace) (by decide) (by assumption) (by assumption) (by assumption); rw [show matchF ⟨6, [wTrace, wWho], 0⟩ ws = _ from h]; rfl)))
  · have g1 := cnd_bne_f h1
    refine k_tt ?_
    refine k_req ((by first | omega | decide | (rw [g1]; decide))) ?_
    refine k_gc (f0 ((6 : Int)) ((0 : Int)) ((0 : Int)) ((0 : Int)) (true)) ?_
    refine k_tt ?_
    refine k_req ((by first | omega | decide | (rw [g1]; decide))) ?_
    refine k_br (fun h8 => ?_) (fun h8 => ?_)
    · have g8 := (cnd_not_t cnd_id_f) h8
      exact k_out (Ent.of_eq (by first | exact mO (nLen 2 rfl (by assumption)) | exact mO (nWord 0 wTrace rfl (by decide) (by assumption)) | exact mO (nNum 1 wWho rfl (by decide) (by assumption)) | (have h := s4 (k := 6) (b := true) (W := wTrace) (by decide) (by assumption) (by assumption) (by assumption); rw [show matchF ⟨6, [wTrace, wWho], 0⟩ ws = _ from h]; rfl)))
    · have g8 := (cnd_not_f cnd_id_t) h8
      refine k_tt ?_
      refine k_req ((by first | omega | decide | (rw [g1]; decide))) ?_
      refine k_gc ((field_1 m) ((6 : Int)) ((0 : Int)) ((0 : Int)) ((0 : Int)) (true)) ?_
      refine k_ff ?_
      refine k_req ((by first | omega | decide | (rw [g1]; decide))) ?_
      refine k_sc (n1) ?_
      refine k_br (fun h16 => ?_) (fun h16 => ?_)
      · have g16 := (cnd_not_t cnd_id_f) h16
        exact k_out (Ent.of_eq (by first | exact mO (nLen 2 rfl (by assumption)) | exact mO (nWord 0 wTrace rfl (by decide) (by assumption)) | exact mO (nNum 1 wWho rfl (by decide) (by assumption)) | (have h := s4 (k := 6) (b := true) (W := wTrace) (by decide) (by assumption) (by assumption) (by assumption); rw [show matchF ⟨6, [wTrace, wWho], 0⟩ ws = _ from h]; rfl)))
      · have g16 := (cnd_not_f cnd_id_t) h16
        refine k_ff ?_
        exact k_out (Ent.of_eq (by first | exact mO (nLen 2 rfl (by assumption)) | exact mO (nWord 0 wTrace rfl (by decide) (by assumption)) | exact mO (nNum 1 wWho rfl (by decide) (by assumption)) | (have h := s4 (k := 6) (b := true) (W := wTrace) (by decide) (by assumption) (by assumption) (by assumption); rw [show matchF ⟨6, [wTrace, wWho], 0⟩ ws = _ from h]; rfl)))

theorem match_7 (m : GP) (ws : List Str) (hw : ∀ w ∈ ws, w.length ≤ 281474976710656) (hn : ws.length < 9223372036854775808) : Pure Tryd.prog (gl0 m) 31 [.agg [.int .i64 7, .str (bs wf7), .int .i64 0], wlA ws] (.tup [.agg (Cmd.cells ((matchF ⟨7, [wClear], 0⟩ ws).getD .zero)), .bool (matchF ⟨7, [wClear], 0⟩ ws).isSome]) := by
  have c0 := fields_7 m
  have f0 := fun c0 c1 c2 c3 c4 => field_0 m c0 c1 c2 c3 c4 wClear (fd _ (by decide)).1 (fd _ (by decide)).2.1 (fd _ (by decide)).2.2
  refine pure_sk (own := (owM 5)) Tryd.func31 (by kernel_rfl) mixed (by kernel_rfl)
    (.gc 46 ([]) ([AV.str (bs wf7)]) (AV.osl (0 : Nat) (1 : Nat) (0 : Nat) (1 : Nat)) ([some { es := (1 : Nat), n := (1 : Nat), mu := true, f := Rep.lst [[AV.str (bs wClear)]] }]) (.br ((↑(List.length ws) : Int) != (↑(1) : Int)) (.out (AV.tup [AV.agg [Zi 0, Zi 0, Zi 0, Zi 0, AV.bool false], AV.bool false]) [] (AV.tup [AV.agg (Cmd.cells (Option.getD (matchF { kind := (7 : Int), ws := [wClear], whom := (0 : Int) } ws) Cmd.zero)), AV.bool (Option.isSome (matchF { kind := (7 : Int), ws := [wClear], whom := (0 : Int) } ws))]) []) (.tt (.req ((0 : Int) ≤ (0 : Int) ∧ (0 : Int) < (↑(1) : Int)) (.gc 47 ([{ es := 5, n := 1, mu := true, f := Rep.lst [[Zi 7, Zi 0, Zi 0, Zi 0, AV.bool true]] }]) ([AV.own (0) (5) (0) (0) (5), AV.str (bs wClear)]) (AV.raw (Value.pointer none)) ([some { es := (5 : Nat), n := (1 : Nat), mu := true, f := Rep.lst [[Zi 7, Zi 0, Zi 0, Zi 0, AV.bool true]] }]) (.tt (.req ((0 : Int) ≤ (0 : Int) ∧ (0 : Int) < (↑(List.length ws) : Int)) (.br (!ByteArray.toList (bs (List.getD ws (Int.toNat (0 : Int)) [])) == ByteArray.toList (bs wClear)) (.out (AV.tup [AV.agg [Zi 0, Zi 0, Zi 0, Zi 0, AV.bool false], AV.bool false]) [] (AV.tup [AV.agg (Cmd.cells (Option.getD (matchF { kind := (7 : Int), ws := [wClear], whom := (0 : Int) } ws) Cmd.zero)), AV.bool (Option.isSome (matchF { kind := (7 : Int), ws := [wClear], whom := (0 : Int) } ws))]) []) (.ff (.out (AV.tup [AV.agg [Zi 7, Zi 0, Zi 0, Zi 0, AV.bool true], AV.bool true]) [] (AV.tup [AV.agg (Cmd.cells (Option.getD (matchF { kind := (7 : Int), ws := [wClear], whom := (0 : Int) } ws) Cmd.zero)), AV.bool (Option.isSome (matchF { kind := (7 : Int), ws := [wClear], whom := (0 : Int) } ws))]) []))))))))))
    (by kernel_rfl) ?_
  refine k_gc (c0) ?_
  refine k_br (fun h1 => ?_) (fun h1 => ?_)
  · have g1 := cnd_bne_t h1
    exact k_out (Ent.of_eq (by first | exact mO (nLen 1 rfl (by assumption)) | exact mO (nWord 0 wClear rfl (by decide) (by assumption)) | (have h := s5 (k := 7) (b := true) (W := wClear) (by decide) (by assumption) (by assumption); rw [show matchF ⟨7, [wClear], 0⟩ ws = _ from h]; rfl)))
  · have g1 := cnd_bne_f h1
    refine k_tt ?_
    refine k_req ((by first | omega | decide | (rw [g1]; decide))) ?_
    refine k_gc (f0 ((7 : Int)) ((0 : Int)) ((0 : Int)) ((0 : Int)) (true)) ?_
    refine k_tt ?_
    refine k_req ((by first | omega | decide | (rw [g1]; decide))) ?_
    refine k_br (fun h8 => ?_) (fun h8 => ?_)
    · have g8 := (cnd_not_t cnd_id_f) h8
      exact k_out (Ent.of_eq (by first | exact mO (nLen 1 rfl (by assumption)) | exact mO (nWord 0 wClear rfl (by decide) (by assumption)) | (have h := s5 (k := 7) (b := true) (W := wClear) (by decide) (by assumption) (by assumption); rw [show matchF ⟨7, [wClear], 0⟩ ws = _ from h]; rfl)))
    · have g8 := (cnd_not_f cnd_id_t) h8
      refine k_ff ?_
      exact k_out (Ent.of_eq (by first | exact mO (nLen 1 rfl (by assumption)) | exact mO (nWord 0 wClear rfl (by decide) (by assumption)) | (have h := s5 (k := 7) (b := true) (W := wClear) (by decide) (by assumption) (by assumption); rw [show matchF ⟨7, [wClear], 0⟩ ws = _ from h]; rfl)))

theorem match_8 (m : GP) (ws : List Str) (hw : ∀ w ∈ ws, w.length ≤ 281474976710656) (hn : ws.length < 9223372036854775808) : Pure Tryd.prog (gl0 m) 31 [.agg [.int .i64 8, .str (bs wf8), .int .i64 0], wlA ws] (.tup [.agg (Cmd.cells ((matchF ⟨8, [wTick, wAmount], 0⟩ ws).getD .zero)), .bool (matchF ⟨8, [wTick, wAmount], 0⟩ ws).isSome]) := by
  have c0 := fields_8 m
  have f0 := fun c0 c1 c2 c3 c4 => field_0 m c0 c1 c2 c3 c4 wTick (fd _ (by decide)).1 (fd _ (by decide)).2.1 (fd _ (by decide)).2.2
  have n1 := number_c m (ws.getD 1 []) (getD_len hw)
  refine pure_sk (own := (owM 5)) Tryd.func31 (by kernel_rfl) mixed (by kernel_rfl)
    (.gc 46 ([]) ([AV.str (bs wf8)]) (AV.osl (0 : Nat) (1 : Nat) (0 : Nat) (2 : Nat)) ([some { es := (1 : Nat), n := (2 : Nat), mu := true, f := Rep.lst [[AV.str (bs wTick)], [AV.str (bs wAmount)]] }]) (.br ((↑(List.length ws) : Int) != (↑(2) : Int)) (.out (AV.tup [AV.agg [Zi 0, Zi 0, Zi 0, Zi 0, AV.bool false], AV.bool false]) [] (AV.tup [AV.agg (Cmd.cells (Option.getD (matchF { kind := (8 : Int), ws := [wTick, wAmount], whom := (0 : Int) } ws) Cmd.zero)), AV.bool (Option.isSome (matchF { kind := (8 : Int), ws := [wTick, wAmount], whom := (0 : Int) } ws))]) []) (.tt (.req ((0 : Int) ≤ (0 : Int) ∧ (0 : Int) < (↑(2) : Int)) (.gc 47 ([{ es := 5, n := 1, mu := true, f := Rep.lst [[Zi 8, Zi 0, Zi 0, Zi 0, AV.bool true]] }]) ([AV.own (0) (5) (0) (0) (5), AV.str (bs wTick)]) (AV.raw (Value.pointer none)) ([some { es := (5 : Nat), n := (1 : Nat), mu := true, f := Rep.lst [[Zi 8, Zi 0, Zi 0, Zi 0, AV.bool true]] }]) (.tt (.req ((0 : Int) ≤ (0 : Int) ∧ (0 : Int) < (↑(List.length ws) : Int)) (.br (!ByteArray.toList (bs (List.getD ws (Int.toNat (0 : Int)) [])) == ByteArray.toList (bs wTick)) (.out (AV.tup [AV.agg [Zi 0, Zi 0, Zi 0, Zi 0, AV.bool false], AV.bool false]) [] (AV.tup [AV.agg (Cmd.cells (Option.getD (matchF { kind := (8 : Int), ws := [wTick, wAmount], whom := (0 : Int) } ws) Cmd.zero)), AV.bool (Option.isSome (matchF { kind := (8 : Int), ws := [wTick, wAmount], whom := (0 : Int) } ws))]) []) (.tt (.req ((0 : Int) ≤ IntKind.wrap IntKind.i64 ((0 : Int) + (1 : Int)) ∧ IntKind.wrap IntKind.i64 ((0 : Int) + (1 : Int)) < (↑(2) : Int)) (.gc 47 ([{ es := 5, n := 1, mu := true, f := Rep.lst [[Zi 8, Zi 0, Zi 0, Zi 0, AV.bool true]] }]) ([AV.own (0) (5) (0) (0) (5), AV.str (bs wAmount)]) (AV.own (0 : Nat) (5 : Nat) (0 : Nat) (3 : Nat) (1 : Nat)) ([some { es := (5 : Nat), n := (1 : Nat), mu := true, f := Rep.lst [[Zi 8, Zi 0, Zi 0, Zi 0, AV.bool true]] }]) (.ff (.req ((0 : Int) ≤ IntKind.wrap IntKind.i64 ((0 : Int) + (1 : Int)) ∧ IntKind.wrap IntKind.i64 ((0 : Int) + (1 : Int)) < (↑(List.length ws) : Int)) (.sc (true) 49 ([AV.str (bs (List.getD ws (1) []))]) (AV.tup [Zi (numVal (List.getD ws (1 : Nat) [])), AV.bool (Option.isSome (numC (List.getD ws (1 : Nat) [])))]) (.br (!Option.isSome (numC (List.getD ws (1) []))) (.out (AV.tup [AV.agg [Zi 0, Zi 0, Zi 0, Zi 0, AV.bool false], AV.bool false]) [] (AV.tup [AV.agg (Cmd.cells (Option.getD (matchF { kind := (8 : Int), ws := [wTick, wAmount], whom := (0 : Int) } ws) Cmd.zero)), AV.bool (Option.isSome (matchF { kind := (8 : Int), ws := [wTick, wAmount], whom := (0 : Int) } ws))]) []) (.ff (.out (AV.tup [AV.agg [Zi 8, Zi 0, Zi 0, Zi (numVal (List.getD ws (1) [])), AV.bool true], AV.bool true]) [] (AV.tup [AV.agg (Cmd.cells (Option.getD (matchF { kind := (8 : Int), ws := [wTick, wAmount], whom := (0 : Int) } ws) Cmd.zero)), AV.bool (Option.isSome (matchF { kind := (8 : Int), ws := [wTick, wAmount], whom := (0 : Int) } ws))]) [])))))))))))))))))
    (by kernel_rfl) ?_
  refine k_gc (c0) ?_
  refine k_br (fun h1 => ?_) (fun h1 => ?_)
  · have g1 := cnd_bne_t h1
    exact k_out (Ent.of_eq (by first | exact mO (nLen 2 rfl (by assumption)) | exact mO (nWord 0 wTick rfl (by decide) (by assumption)) | exact mO (nNum 1 wAmount rfl (by decide) (by assumption)) | (have h := s6 (k := 8) (b := true) (W := wTick) (by decide) (by assumption) (by assumption) (by assumption); rw [show matchF ⟨8, [wTick, wAmount], 0⟩ ws = _ from h]; rfl)))
  · have g1 := cnd_bne_f h1
    refine k_tt ?_
    refine k_req ((by first | omega | decide | (rw [g1]; decide))) ?_
    refine k_gc (f0 ((8 : Int)) ((0 : Int)) ((0 : Int)) ((0 : Int)) (true)) ?_
    refine k_tt ?_
    refine k_req ((by first | omega | decide | (rw [g1]; decide))) ?_
    refine k_br (fun h8 => ?_) (fun h8 => ?_)
    · have g8 := (cnd_not_t cnd_id_f) h8
      exact k_out (Ent.of_eq (by first | exact mO (nLen 2 rfl (by assumption)) | exact mO (nWord 0 wTick rfl (by decide) (by assumption)) | exact mO (nNum 1 wAmount rfl (by decide) (by assumption)) | (have h := s6 (k := 8) (b := true) (W := wTick) (by decide) (by assumption) (by assumption) (by assumption); rw [show matchF ⟨8, [wTick, wAmount], 0⟩ ws = _ from h]; rfl)))
    · have g8 := (cnd_not_f cnd_id_t) h8
      refine k_tt ?_
      refine k_req ((by first | omega | decide | (rw [g1]; decide))) ?_
      refine k_gc ((field_3 m) ((8 : Int)) ((0 : Int)) ((0 : Int)) ((0 : Int)) (true)) ?_
      refine k_ff ?_
      refine k_req ((by first | omega | decide | (rw [g1]; decide))) ?_
      refine k_sc (n1) ?_
      refine k_br (fun h16 => ?_) (fun h16 => ?_)
      · have g16 := (cnd_not_t cnd_id_f) h16
        exact k_out (Ent.of_eq (by first | exact mO (nLen 2 rfl (by assumption)) | exact mO (nWord 0 wTick rfl (by decide) (by assumption)) | exact mO (nNum 1 wAmount rfl (by decide) (by assumption)) | (have h := s6 (k := 8) (b := true) (W := wTick) (by decide) (by assumption) (by assumption) (by assumption); rw [show matchF ⟨8, [wTick, wAmount], 0⟩ ws = _ from h]; rfl)))
      · have g16 := (cnd_not_f cnd_id_t) h16
        refine k_ff ?_
        exact k_out (Ent.of_eq (by first | exact mO (nLen 2 rfl (by assumption)) | exact mO (nWord 0 wTick rfl (by decide) (by assumption)) | exact mO (nNum 1 wAmount rfl (by decide) (by assumption)) | (have h := s6 (k := 8) (b := true) (W := wTick) (by decide) (by assumption) (by assumption) (by assumption); rw [show matchF ⟨8, [wTick, wAmount], 0⟩ ws = _ from h]; rfl)))


theorem line_0 (m : GP) (a : Cmd) (ha : CmdR a) : Pure Tryd.prog (gl0 m) 30 [.agg [.int .i64 1, .str (bs wf0), .int .i64 0], .agg a.cells] (wlA (lineF ⟨1, [wWithdraw, wWho, wAmount], 0⟩ a)) := by
  have c0 := fields_0 m
  have f0 := fun c0 c1 c2 c3 c4 => field_0 m c0 c1 c2 c3 c4 wWithdraw (fd _ (by decide)).1 (fd _ (by decide)).2.1 (fd _ (by decide)).2.2
  have n1 := itoa_c m a.who ha.who
  have n3 := itoa_c m a.amount ha.amount
  refine pure_sk (own := (owM 5)) Tryd.func30 (by kernel_rfl) mixed (by kernel_rfl)
    (.gc 46 ([]) ([AV.str (bs wf0)]) (AV.osl (0 : Nat) (1 : Nat) (0 : Nat) (3 : Nat)) ([some { es := (1 : Nat), n := (3 : Nat), mu := true, f := Rep.lst [[AV.str (bs wWithdraw)], [AV.str (bs wWho)], [AV.str (bs wAmount)]] }]) (.tt (.req ((0 : Int) ≤ (0 : Int) ∧ (0 : Int) < (↑(3) : Int)) (.gc 47 ([{ es := 5, n := 1, mu := true, f := Rep.lst [Cmd.cells a] }]) ([AV.own (0) (5) (0) (0) (5), AV.str (bs wWithdraw)]) (AV.raw (Value.pointer none)) ([some { es := (5 : Nat), n := (1 : Nat), mu := true, f := Rep.lst [[Zi (Cmd.kind a), Zi (Cmd.who a), Zi (Cmd.whom a), Zi (Cmd.amount a), AV.bool (Cmd.honest a)]] }]) (.ff (.tt (.req ((0 : Int) ≤ IntKind.wrap IntKind.i64 ((0 : Int) + (1 : Int)) ∧ IntKind.wrap IntKind.i64 ((0 : Int) + (1 : Int)) < (↑(3) : Int)) (.gc 47 ([{ es := 5, n := 1, mu := true, f := Rep.lst [Cmd.cells a] }]) ([AV.own (0) (5) (0) (0) (5), AV.str (bs wWho)]) (AV.own (0 : Nat) (5 : Nat) (0 : Nat) (1 : Nat) (1 : Nat)) ([some { es := (5 : Nat), n := (1 : Nat), mu := true, f := Rep.lst [[Zi (Cmd.kind a), Zi (Cmd.who a), Zi (Cmd.whom a), Zi (Cmd.amount a), AV.bool (Cmd.honest a)]] }]) (.tt (.sc (true) 48 ([Zi a.2]) (AV.str (bs (itoa (Cmd.who a)))) (.req ((0 : Int) ≤ IntKind.wrap IntKind.i64 ((0 : Int) + (1 : Int)) ∧ IntKind.wrap IntKind.i64 ((0 : Int) + (1 : Int)) < (↑(3) : Int)) (.tt (.req ((0 : Int) ≤ IntKind.wrap IntKind.i64 (IntKind.wrap IntKind.i64 ((0 : Int) + (1 : Int)) + (1 : Int)) ∧ IntKind.wrap IntKind.i64 (IntKind.wrap IntKind.i64 ((0 : Int) + (1 : Int)) + (1 : Int)) < (↑(3) : Int)) (.gc 47 ([{ es := 5, n := 1, mu := true, f := Rep.lst [Cmd.cells a] }]) ([AV.own (0) (5) (0) (0) (5), AV.str (bs wAmount)]) (AV.own (0 : Nat) (5 : Nat) (0 : Nat) (3 : Nat) (1 : Nat)) ([some { es := (5 : Nat), n := (1 : Nat), mu := true, f := Rep.lst [[Zi (Cmd.kind a), Zi (Cmd.who a), Zi (Cmd.whom a), Zi (Cmd.amount a), AV.bool (Cmd.honest a)]] }]) (.tt (.sc (true) 48 ([Zi a.4]) (AV.str (bs (itoa (Cmd.amount a)))) (.req ((0 : Int) ≤ IntKind.wrap IntKind.i64 (IntKind.wrap IntKind.i64 ((0 : Int) + (1 : Int)) + (1 : Int)) ∧ IntKind.wrap IntKind.i64 (IntKind.wrap IntKind.i64 ((0 : Int) + (1 : Int)) + (1 : Int)) < (↑(3) : Int)) (.ff (.out (AV.isl (1) (3) fun (r k : Nat) => atL (List.getD [[AV.str (bs wWithdraw)], [AV.str (bs (itoa a.2))], [AV.str (bs (itoa a.4))]] (r + 0) []) k) [] (wlA (lineF { kind := (1 : Int), ws := [wWithdraw, wWho, wAmount], whom := (0 : Int) } a)) [])))))))))))))))))))
    (by kernel_rfl) ?_
  refine k_gc (c0) ?_
  refine k_tt ?_
  refine k_req ((by first | omega | decide)) ?_
  refine k_gc (f0 (Cmd.kind a) (Cmd.who a) (Cmd.whom a) (Cmd.amount a) (Cmd.honest a)) ?_
  refine k_ff ?_
  refine k_tt ?_
  refine k_req ((by first | omega | decide)) ?_
  refine k_gc ((field_1 m) (Cmd.kind a) (Cmd.who a) (Cmd.whom a) (Cmd.amount a) (Cmd.honest a)) ?_
  refine k_tt ?_
  refine k_sc (n1) ?_
  refine k_req ((by first | omega | decide)) ?_
  refine k_tt ?_
  refine k_req ((by first | omega | decide)) ?_
  refine k_gc ((field_3 m) (Cmd.kind a) (Cmd.who a) (Cmd.whom a) (Cmd.amount a) (Cmd.honest a)) ?_
  refine k_tt ?_
  refine k_sc (n3) ?_
  refine k_req ((by first | omega | decide)) ?_
  refine k_ff ?_
  exact k_out (Ent.isl (fun i j hi hj => by have e := Nat.lt_one_iff.1 hj; subst e; exact (match i, hi with | 0, _ | 1, _ | 2, _ => rfl)))

theorem line_1 (m : GP) (a : Cmd) (ha : CmdR a) : Pure Tryd.prog (gl0 m) 30 [.agg [.int .i64 2, .str (bs wf1), .int .i64 0], .agg a.cells] (wlA (lineF ⟨2, [wPay, wWho, wWhom, wAmount], 0⟩ a)) := by
  have c0 := fields_1 m
  have f0 := fun c0 c1 c2 c3 c4 => field_0 m c0 c1 c2 c3 c4 wPay (fd _ (by decide)).1 (fd _ (by decide)).2.1 (fd _ (by decide)).2.2
  have n1 := itoa_c m a.who ha.who
  have n2 := itoa_c m a.whom ha.whom
  have n3 := itoa_c m a.amount ha.amount
  refine pure_sk (own := (owM 5)) Tryd.func30 (by kernel_rfl) mixed (by kernel_rfl)
    (.gc 46 ([]) ([AV.str (bs wf1)]) (AV.osl (0 : Nat) (1 : Nat) (0 : Nat) (4 : Nat)) ([some { es := (1 : Nat), n := (4 : Nat), mu := true, f := Rep.lst [[AV.str (bs wPay)], [AV.str (bs wWho)], [AV.str (bs wWhom)], [AV.str (bs wAmount)]] }]) (.tt (.req ((0 : Int) ≤ (0 : Int) ∧ (0 : Int) < (↑(4) : Int)) (.gc 47 ([{ es := 5, n := 1, mu := true, f := Rep.lst [Cmd.cells a] }]) ([AV.own (0) (5) (0) (0) (5), AV.str (bs wPay)]) (AV.raw (Value.pointer none)) ([some { es := (5 : Nat), n := (1 : Nat), mu := true, f := Rep.lst [[Zi (Cmd.kind a), Zi (Cmd.who a), Zi (Cmd.whom a), Zi (Cmd.amount a), AV.bool (Cmd.honest a)]] }]) (.ff (.tt (.req ((0 : Int) ≤ IntKind.wrap IntKind.i64 ((0 : Int) + (1 : Int)) ∧ IntKind.wrap IntKind.i64 ((0 : Int) + (1 : Int)) < (↑(4) : Int)) (.gc 47 ([{ es := 5, n := 1, mu := true, f := Rep.lst [Cmd.cells a] }]) ([AV.own (0) (5) (0) (0) (5), AV.str (bs wWho)]) (AV.own (0 : Nat) (5 : Nat) (0 : Nat) (1 : Nat) (1 : Nat)) ([some { es := (5 : Nat), n := (1 : Nat), mu := true, f := Rep.lst [[Zi (Cmd.kind a), Zi (Cmd.who a), Zi (Cmd.whom a), Zi (Cmd.amount a), AV.bool (Cmd.honest a)]] }]) (.tt (.sc (true) 48 ([Zi a.2]) (AV.str (bs (itoa (Cmd.who a)))) (.req ((0 : Int) ≤ IntKind.wrap IntKind.i64 ((0 : Int) + (1 : Int)) ∧ IntKind.wrap IntKind.i64 ((0 : Int) + (1 : Int)) < (↑(4) : Int)) (.tt (.req ((0 : Int) ≤ IntKind.wrap IntKind.i64 (IntKind.wrap IntKind.i64 ((0 : Int) + (1 : Int)) + (1 : Int)) ∧ IntKind.wrap IntKind.i64 (IntKind.wrap IntKind.i64 ((0 : Int) + (1 : Int)) + (1 : Int)) < (↑(4) : Int)) (.gc 47 ([{ es := 5, n := 1, mu := true, f := Rep.lst [Cmd.cells a] }]) ([AV.own (0) (5) (0) (0) (5), AV.str (bs wWhom)]) (AV.own (0 : Nat) (5 : Nat) (0 : Nat) (2 : Nat) (1 : Nat)) ([some { es := (5 : Nat), n := (1 : Nat), mu := true, f := Rep.lst [[Zi (Cmd.kind a), Zi (Cmd.who a), Zi (Cmd.whom a), Zi (Cmd.amount a), AV.bool (Cmd.honest a)]] }]) (.tt (.sc (true) 48 ([Zi a.3]) (AV.str (bs (itoa (Cmd.whom a)))) (.req ((0 : Int) ≤ IntKind.wrap IntKind.i64 (IntKind.wrap IntKind.i64 ((0 : Int) + (1 : Int)) + (1 : Int)) ∧ IntKind.wrap IntKind.i64 (IntKind.wrap IntKind.i64 ((0 : Int) + (1 : Int)) + (1 : Int)) < (↑(4) : Int)) (.tt (.req ((0 : Int) ≤ IntKind.wrap IntKind.i64 (IntKind.wrap IntKind.i64 (IntKind.wrap IntKind.i64 ((0 : Int) + (1 : Int)) + (1 : Int)) + (1 : Int)) ∧ IntKind.wrap IntKind.i64 (IntKind.wrap IntKind.i64 (IntKind.wrap IntKind.i64 ((0 : Int) + (1 : Int)) + (1 : Int)) + (1 : Int)) < (↑(4) : Int)) (.gc 47 ([{ es := 5, n := 1, mu := true, f := Rep.lst [Cmd.cells a] }]) ([AV.own (0) (5) (0) (0) (5), AV.str (bs wAmount)]) (AV.own (0 : Nat) (5 : Nat) (0 : Nat) (3 : Nat) (1 : Nat)) ([some { es := (5 : Nat), n := (1 : Nat), mu := true, f := Rep.lst [[Zi (Cmd.kind a), Zi (Cmd.who a), Zi (Cmd.whom a), Zi (Cmd.amount a), AV.bool (Cmd.honest a)]] }]) (.tt (.sc (true) 48 ([Zi a.4]) (AV.str (bs (itoa (Cmd.amount a)))) (.req ((0 : Int) ≤ IntKind.wrap IntKind.i64 (IntKind.wrap IntKind.i64 (IntKind.wrap IntKind.i64 ((0 : Int) + (1 : Int)) + (1 : Int)) + (1 : Int)) ∧ IntKind.wrap IntKind.i64 (IntKind.wrap IntKind.i64 (IntKind.wrap IntKind.i64 ((0 : Int) + (1 : Int)) + (1 : Int)) + (1 : Int)) < (↑(4) : Int)) (.ff (.out (AV.isl (1) (4) fun (r k : Nat) => atL (List.getD [[AV.str (bs wPay)], [AV.str (bs (itoa a.2))], [AV.str (bs (itoa a.3))], [AV.str (bs (itoa a.4))]] (r + 0) []) k) [] (wlA (lineF { kind := (2 : Int), ws := [wPay, wWho, wWhom, wAmount], whom := (0 : Int) } a)) [])))))))))))))))))))))))))
    (by kernel_rfl) ?_
  refine k_gc (c0) ?_
  refine k_tt ?_
  refine k_req ((by first | omega | decide)) ?_
  refine k_gc (f0 (Cmd.kind a) (Cmd.who a) (Cmd.whom a) (Cmd.amount a) (Cmd.honest a)) ?_
  refine k_ff ?_
  refine k_tt ?_
  refine k_req ((by first | omega | decide)) ?_
  refine k_gc ((field_1 m) (Cmd.kind a) (Cmd.who a) (Cmd.whom a) (Cmd.amount a) (Cmd.honest a)) ?_
  refine k_tt ?_
  refine k_sc (n1) ?_
  refine k_req ((by first | omega | decide)) ?_
  refine k_tt ?_
  refine k_req ((by first | omega | decide)) ?_
  refine k_gc ((field_2 m) (Cmd.kind a) (Cmd.who a) (Cmd.whom a) (Cmd.amount a) (Cmd.honest a)) ?_
  refine k_tt ?_
  refine k_sc (n2) ?_
  refine k_req ((by first | omega | decide)) ?_
  refine k_tt ?_
  refine k_req ((by first | omega | decide)) ?_
  refine k_gc ((field_3 m) (Cmd.kind a) (Cmd.who a) (Cmd.whom a) (Cmd.amount a) (Cmd.honest a)) ?_
  refine k_tt ?_
  refine k_sc (n3) ?_
  refine k_req ((by first | omega | decide)) ?_
  refine k_ff ?_
  exact k_out (Ent.isl (fun i j hi hj => by have e := Nat.lt_one_iff.1 hj; subst e; exact (match i, hi with | 0, _ | 1, _ | 2, _ | 3, _ => rfl)))

theorem line_2 (m : GP) (a : Cmd) (ha : CmdR a) : Pure Tryd.prog (gl0 m) 30 [.agg [.int .i64 3, .str (bs wf2), .int .i64 0], .agg a.cells] (wlA (lineF ⟨3, [wTransfer, wWho, wWhom, wAmount], 0⟩ a)) := by
  have c0 := fields_2 m
  have f0 := fun c0 c1 c2 c3 c4 => field_0 m c0 c1 c2 c3 c4 wTransfer (fd _ (by decide)).1 (fd _ (by decide)).2.1 (fd _ (by decide)).2.2
  have n1 := itoa_c m a.who ha.who
  have n2 := itoa_c m a.whom ha.whom
  have n3 := itoa_c m a.amount ha.amount
  refine pure_sk (own := (owM 5)) Tryd.func30 (by kernel_rfl) mixed (by kernel_rfl)
    (.gc 46 ([]) ([AV.str (bs wf2)]) (AV.osl (0 : Nat) (1 : Nat) (0 : Nat) (4 : Nat)) ([some { es := (1 : Nat), n := (4 : Nat), mu := true, f := Rep.lst [[AV.str (bs wTransfer)], [AV.str (bs wWho)], [AV.str (bs wWhom)], [AV.str (bs wAmount)]] }]) (.tt (.req ((0 : Int) ≤ (0 : Int) ∧ (0 : Int) < (↑(4) : Int)) (.gc 47 ([{ es := 5, n := 1, mu := true, f := Rep.lst [Cmd.cells a] }]) ([AV.own (0) (5) (0) (0) (5), AV.str (bs wTransfer)]) (AV.raw (Value.pointer none)) ([some { es := (5 : Nat), n := (1 : Nat), mu := true, f := Rep.lst [[Zi (Cmd.kind a), Zi (Cmd.who a), Zi (Cmd.whom a), Zi (Cmd.amount a), AV.bool (Cmd.honest a)]] }]) (.ff (.tt (.req ((0 : Int) ≤ IntKind.wrap IntKind.i64 ((0 : Int) + (1 : Int)) ∧ IntKind.wrap IntKind.i64 ((0 : Int) + (1 : Int)) < (↑(4) : Int)) (.gc 47 ([{ es := 5, n := 1, mu := true, f := Rep.lst [Cmd.cells a] }]) ([AV.own (0) (5) (0) (0) (5), AV.str (bs wWho)]) (AV.own (0 : Nat) (5 : Nat) (0 : Nat) (1 : Nat) (1 : Nat)) ([some { es := (5 : Nat), n := (1 : Nat), mu := true, f := Rep.lst [[Zi (Cmd.kind a), Zi (Cmd.who a), Zi (Cmd.whom a), Zi (Cmd.amount a), AV.bool (Cmd.honest a)]] }]) (.tt (.sc (true) 48 ([Zi a.2]) (AV.str (bs (itoa (Cmd.who a)))) (.req ((0 : Int) ≤ IntKind.wrap IntKind.i64 ((0 : Int) + (1 : Int)) ∧ IntKind.wrap IntKind.i64 ((0 : Int) + (1 : Int)) < (↑(4) : Int)) (.tt (.req ((0 : Int) ≤ IntKind.wrap IntKind.i64 (IntKind.wrap IntKind.i64 ((0 : Int) + (1 : Int)) + (1 : Int)) ∧ IntKind.wrap IntKind.i64 (IntKind.wrap IntKind.i64 ((0 : Int) + (1 : Int)) + (1 : Int)) < (↑(4) : Int)) (.gc 47 ([{ es := 5, n := 1, mu := true, f := Rep.lst [Cmd.cells a] }]) ([AV.own (0) (5) (0) (0) (5), AV.str (bs wWhom)]) (AV.own (0 : Nat) (5 : Nat) (0 : Nat) (2 : Nat) (1 : Nat)) ([some { es := (5 : Nat), n := (1 : Nat), mu := true, f := Rep.lst [[Zi (Cmd.kind a), Zi (Cmd.who a), Zi (Cmd.whom a), Zi (Cmd.amount a), AV.bool (Cmd.honest a)]] }]) (.tt (.sc (true) 48 ([Zi a.3]) (AV.str (bs (itoa (Cmd.whom a)))) (.req ((0 : Int) ≤ IntKind.wrap IntKind.i64 (IntKind.wrap IntKind.i64 ((0 : Int) + (1 : Int)) + (1 : Int)) ∧ IntKind.wrap IntKind.i64 (IntKind.wrap IntKind.i64 ((0 : Int) + (1 : Int)) + (1 : Int)) < (↑(4) : Int)) (.tt (.req ((0 : Int) ≤ IntKind.wrap IntKind.i64 (IntKind.wrap IntKind.i64 (IntKind.wrap IntKind.i64 ((0 : Int) + (1 : Int)) + (1 : Int)) + (1 : Int)) ∧ IntKind.wrap IntKind.i64 (IntKind.wrap IntKind.i64 (IntKind.wrap IntKind.i64 ((0 : Int) + (1 : Int)) + (1 : Int)) + (1 : Int)) < (↑(4) : Int)) (.gc 47 ([{ es := 5, n := 1, mu := true, f := Rep.lst [Cmd.cells a] }]) ([AV.own (0) (5) (0) (0) (5), AV.str (bs wAmount)]) (AV.own (0 : Nat) (5 : Nat) (0 : Nat) (3 : Nat) (1 : Nat)) ([some { es := (5 : Nat), n := (1 : Nat), mu := true, f := Rep.lst [[Zi (Cmd.kind a), Zi (Cmd.who a), Zi (Cmd.whom a), Zi (Cmd.amount a), AV.bool (Cmd.honest a)]] }]) (.tt (.sc (true) 48 ([Zi a.4]) (AV.str (bs (itoa (Cmd.amount a)))) (.req ((0 : Int) ≤ IntKind.wrap IntKind.i64 (IntKind.wrap IntKind.i64 (IntKind.wrap IntKind.i64 ((0 : Int) + (1 : Int)) + (1 : Int)) + (1 : Int)) ∧ IntKind.wrap IntKind.i64 (IntKind.wrap IntKind.i64 (IntKind.wrap IntKind.i64 ((0 : Int) + (1 : Int)) + (1 : Int)) + (1 : Int)) < (↑(4) : Int)) (.ff (.out (AV.isl (1) (4) fun (r k : Nat) => atL (List.getD [[AV.str (bs wTransfer)], [AV.str (bs (itoa a.2))], [AV.str (bs (itoa a.3))], [AV.str (bs (itoa a.4))]] (r + 0) []) k) [] (wlA (lineF { kind := (3 : Int), ws := [wTransfer, wWho, wWhom, wAmount], whom := (0 : Int) } a)) [])))))))))))))))))))))))))
    (by kernel_rfl) ?_
  refine k_gc (c0) ?_
  refine k_tt ?_
  refine k_req ((by first | omega | decide)) ?_
  refine k_gc (f0 (Cmd.kind a) (Cmd.who a) (Cmd.whom a) (Cmd.amount a) (Cmd.honest a)) ?_
  refine k_ff ?_
  refine k_tt ?_
  refine k_req ((by first | omega | decide)) ?_
  refine k_gc ((field_1 m) (Cmd.kind a) (Cmd.who a) (Cmd.whom a) (Cmd.amount a) (Cmd.honest a)) ?_
  refine k_tt ?_
  refine k_sc (n1) ?_
  refine k_req ((by first | omega | decide)) ?_
  refine k_tt ?_
  refine k_req ((by first | omega | decide)) ?_
  refine k_gc ((field_2 m) (Cmd.kind a) (Cmd.who a) (Cmd.whom a) (Cmd.amount a) (Cmd.honest a)) ?_
  refine k_tt ?_
  refine k_sc (n2) ?_
  refine k_req ((by first | omega | decide)) ?_
  refine k_tt ?_
  refine k_req ((by first | omega | decide)) ?_
  refine k_gc ((field_3 m) (Cmd.kind a) (Cmd.who a) (Cmd.whom a) (Cmd.amount a) (Cmd.honest a)) ?_
  refine k_tt ?_
  refine k_sc (n3) ?_
  refine k_req ((by first | omega | decide)) ?_
  refine k_ff ?_
  exact k_out (Ent.isl (fun i j hi hj => by have e := Nat.lt_one_iff.1 hj; subst e; exact (match i, hi with | 0, _ | 1, _ | 2, _ | 3, _ => rfl)))

theorem line_3 (m : GP) (a : Cmd) (ha : CmdR a) : Pure Tryd.prog (gl0 m) 30 [.agg [.int .i64 4, .str (bs wf3), .int .i64 0], .agg a.cells] (wlA (lineF ⟨4, [wDeposit, wMerchant, wWho], 0⟩ a)) := by
  have c0 := fields_3 m
  have f0 := fun c0 c1 c2 c3 c4 => field_0 m c0 c1 c2 c3 c4 wDeposit (fd _ (by decide)).1 (fd _ (by decide)).2.1 (fd _ (by decide)).2.2
  have f1 := fun c0 c1 c2 c3 c4 => field_0 m c0 c1 c2 c3 c4 wMerchant (fd _ (by decide)).1 (fd _ (by decide)).2.1 (fd _ (by decide)).2.2
  have n1 := itoa_c m a.who ha.who
  refine pure_sk (own := (owM 5)) Tryd.func30 (by kernel_rfl) mixed (by kernel_rfl)
    (.gc 46 ([]) ([AV.str (bs wf3)]) (AV.osl (0 : Nat) (1 : Nat) (0 : Nat) (3 : Nat)) ([some { es := (1 : Nat), n := (3 : Nat), mu := true, f := Rep.lst [[AV.str (bs wDeposit)], [AV.str (bs wMerchant)], [AV.str (bs wWho)]] }]) (.tt (.req ((0 : Int) ≤ (0 : Int) ∧ (0 : Int) < (↑(3) : Int)) (.gc 47 ([{ es := 5, n := 1, mu := true, f := Rep.lst [Cmd.cells a] }]) ([AV.own (0) (5) (0) (0) (5), AV.str (bs wDeposit)]) (AV.raw (Value.pointer none)) ([some { es := (5 : Nat), n := (1 : Nat), mu := true, f := Rep.lst [[Zi (Cmd.kind a), Zi (Cmd.who a), Zi (Cmd.whom a), Zi (Cmd.amount a), AV.bool (Cmd.honest a)]] }]) (.ff (.tt (.req ((0 : Int) ≤ IntKind.wrap IntKind.i64 ((0 : Int) + (1 : Int)) ∧ IntKind.wrap IntKind.i64 ((0 : Int) + (1 : Int)) < (↑(3) : Int)) (.gc 47 ([{ es := 5, n := 1, mu := true, f := Rep.lst [Cmd.cells a] }]) ([AV.own (0) (5) (0) (0) (5), AV.str (bs wMerchant)]) (AV.raw (Value.pointer none)) ([some { es := (5 : Nat), n := (1 : Nat), mu := true, f := Rep.lst [[Zi (Cmd.kind a), Zi (Cmd.who a), Zi (Cmd.whom a), Zi (Cmd.amount a), AV.bool (Cmd.honest a)]] }]) (.ff (.tt (.req ((0 : Int) ≤ IntKind.wrap IntKind.i64 (IntKind.wrap IntKind.i64 ((0 : Int) + (1 : Int)) + (1 : Int)) ∧ IntKind.wrap IntKind.i64 (IntKind.wrap IntKind.i64 ((0 : Int) + (1 : Int)) + (1 : Int)) < (↑(3) : Int)) (.gc 47 ([{ es := 5, n := 1, mu := true, f := Rep.lst [Cmd.cells a] }]) ([AV.own (0) (5) (0) (0) (5), AV.str (bs wWho)]) (AV.own (0 : Nat) (5 : Nat) (0 : Nat) (1 : Nat) (1 : Nat)) ([some { es := (5 : Nat), n := (1 : Nat), mu := true, f := Rep.lst [[Zi (Cmd.kind a), Zi (Cmd.who a), Zi (Cmd.whom a), Zi (Cmd.amount a), AV.bool (Cmd.honest a)]] }]) (.tt (.sc (true) 48 ([Zi a.2]) (AV.str (bs (itoa (Cmd.who a)))) (.req ((0 : Int) ≤ IntKind.wrap IntKind.i64 (IntKind.wrap IntKind.i64 ((0 : Int) + (1 : Int)) + (1 : Int)) ∧ IntKind.wrap IntKind.i64 (IntKind.wrap IntKind.i64 ((0 : Int) + (1 : Int)) + (1 : Int)) < (↑(3) : Int)) (.ff (.out (AV.isl (1) (3) fun (r k : Nat) => atL (List.getD [[AV.str (bs wDeposit)], [AV.str (bs wMerchant)], [AV.str (bs (itoa a.2))]] (r + 0) []) k) [] (wlA (lineF { kind := (4 : Int), ws := [wDeposit, wMerchant, wWho], whom := (0 : Int) } a)) [])))))))))))))))))
    (by kernel_rfl) ?_
  refine k_gc (c0) ?_
  refine k_tt ?_
  refine k_req ((by first | omega | decide)) ?_
  refine k_gc (f0 (Cmd.kind a) (Cmd.who a) (Cmd.whom a) (Cmd.amount a) (Cmd.honest a)) ?_
  refine k_ff ?_
  refine k_tt ?_
  refine k_req ((by first | omega | decide)) ?_
  refine k_gc (f1 (Cmd.kind a) (Cmd.who a) (Cmd.whom a) (Cmd.amount a) (Cmd.honest a)) ?_
  refine k_ff ?_
  refine k_tt ?_
  refine k_req ((by first | omega | decide)) ?_
  refine k_gc ((field_1 m) (Cmd.kind a) (Cmd.who a) (Cmd.whom a) (Cmd.amount a) (Cmd.honest a)) ?_
  refine k_tt ?_
  refine k_sc (n1) ?_
  refine k_req ((by first | omega | decide)) ?_
  refine k_ff ?_
  exact k_out (Ent.isl (fun i j hi hj => by have e := Nat.lt_one_iff.1 hj; subst e; exact (match i, hi with | 0, _ | 1, _ | 2, _ => rfl)))

theorem line_4 (m : GP) (a : Cmd) (ha : CmdR a) : Pure Tryd.prog (gl0 m) 30 [.agg [.int .i64 4, .str (bs wf4), .int .i64 1], .agg a.cells] (wlA (lineF ⟨4, [wDeposit, wHolder, wWho], 1⟩ a)) := by
  have c0 := fields_4 m
  have f0 := fun c0 c1 c2 c3 c4 => field_0 m c0 c1 c2 c3 c4 wDeposit (fd _ (by decide)).1 (fd _ (by decide)).2.1 (fd _ (by decide)).2.2
  have f1 := fun c0 c1 c2 c3 c4 => field_0 m c0 c1 c2 c3 c4 wHolder (fd _ (by decide)).1 (fd _ (by decide)).2.1 (fd _ (by decide)).2.2
  have n1 := itoa_c m a.who ha.who
  refine pure_sk (own := (owM 5)) Tryd.func30 (by kernel_rfl) mixed (by kernel_rfl)
    (.gc 46 ([]) ([AV.str (bs wf4)]) (AV.osl (0 : Nat) (1 : Nat) (0 : Nat) (3 : Nat)) ([some { es := (1 : Nat), n := (3 : Nat), mu := true, f := Rep.lst [[AV.str (bs wDeposit)], [AV.str (bs wHolder)], [AV.str (bs wWho)]] }]) (.tt (.req ((0 : Int) ≤ (0 : Int) ∧ (0 : Int) < (↑(3) : Int)) (.gc 47 ([{ es := 5, n := 1, mu := true, f := Rep.lst [Cmd.cells a] }]) ([AV.own (0) (5) (0) (0) (5), AV.str (bs wDeposit)]) (AV.raw (Value.pointer none)) ([some { es := (5 : Nat), n := (1 : Nat), mu := true, f := Rep.lst [[Zi (Cmd.kind a), Zi (Cmd.who a), Zi (Cmd.whom a), Zi (Cmd.amount a), AV.bool (Cmd.honest a)]] }]) (.ff (.tt (.req ((0 : Int) ≤ IntKind.wrap IntKind.i64 ((0 : Int) + (1 : Int)) ∧ IntKind.wrap IntKind.i64 ((0 : Int) + (1 : Int)) < (↑(3) : Int)) (.gc 47 ([{ es := 5, n := 1, mu := true, f := Rep.lst [Cmd.cells a] }]) ([AV.own (0) (5) (0) (0) (5), AV.str (bs wHolder)]) (AV.raw (Value.pointer none)) ([some { es := (5 : Nat), n := (1 : Nat), mu := true, f := Rep.lst [[Zi (Cmd.kind a), Zi (Cmd.who a), Zi (Cmd.whom a), Zi (Cmd.amount a), AV.bool (Cmd.honest a)]] }]) (.ff (.tt (.req ((0 : Int) ≤ IntKind.wrap IntKind.i64 (IntKind.wrap IntKind.i64 ((0 : Int) + (1 : Int)) + (1 : Int)) ∧ IntKind.wrap IntKind.i64 (IntKind.wrap IntKind.i64 ((0 : Int) + (1 : Int)) + (1 : Int)) < (↑(3) : Int)) (.gc 47 ([{ es := 5, n := 1, mu := true, f := Rep.lst [Cmd.cells a] }]) ([AV.own (0) (5) (0) (0) (5), AV.str (bs wWho)]) (AV.own (0 : Nat) (5 : Nat) (0 : Nat) (1 : Nat) (1 : Nat)) ([some { es := (5 : Nat), n := (1 : Nat), mu := true, f := Rep.lst [[Zi (Cmd.kind a), Zi (Cmd.who a), Zi (Cmd.whom a), Zi (Cmd.amount a), AV.bool (Cmd.honest a)]] }]) (.tt (.sc (true) 48 ([Zi a.2]) (AV.str (bs (itoa (Cmd.who a)))) (.req ((0 : Int) ≤ IntKind.wrap IntKind.i64 (IntKind.wrap IntKind.i64 ((0 : Int) + (1 : Int)) + (1 : Int)) ∧ IntKind.wrap IntKind.i64 (IntKind.wrap IntKind.i64 ((0 : Int) + (1 : Int)) + (1 : Int)) < (↑(3) : Int)) (.ff (.out (AV.isl (1) (3) fun (r k : Nat) => atL (List.getD [[AV.str (bs wDeposit)], [AV.str (bs wHolder)], [AV.str (bs (itoa a.2))]] (r + 0) []) k) [] (wlA (lineF { kind := (4 : Int), ws := [wDeposit, wHolder, wWho], whom := (1 : Int) } a)) [])))))))))))))))))
    (by kernel_rfl) ?_
  refine k_gc (c0) ?_
  refine k_tt ?_
  refine k_req ((by first | omega | decide)) ?_
  refine k_gc (f0 (Cmd.kind a) (Cmd.who a) (Cmd.whom a) (Cmd.amount a) (Cmd.honest a)) ?_
  refine k_ff ?_
  refine k_tt ?_
  refine k_req ((by first | omega | decide)) ?_
  refine k_gc (f1 (Cmd.kind a) (Cmd.who a) (Cmd.whom a) (Cmd.amount a) (Cmd.honest a)) ?_
  refine k_ff ?_
  refine k_tt ?_
  refine k_req ((by first | omega | decide)) ?_
  refine k_gc ((field_1 m) (Cmd.kind a) (Cmd.who a) (Cmd.whom a) (Cmd.amount a) (Cmd.honest a)) ?_
  refine k_tt ?_
  refine k_sc (n1) ?_
  refine k_req ((by first | omega | decide)) ?_
  refine k_ff ?_
  exact k_out (Ent.isl (fun i j hi hj => by have e := Nat.lt_one_iff.1 hj; subst e; exact (match i, hi with | 0, _ | 1, _ | 2, _ => rfl)))

theorem line_5 (m : GP) (a : Cmd) (ha : CmdR a) : Pure Tryd.prog (gl0 m) 30 [.agg [.int .i64 5, .str (bs wf5), .int .i64 0], .agg a.cells] (wlA (lineF ⟨5, [wDouble, wWho, wWhom, wAmount], 0⟩ a)) := by
  have c0 := fields_5 m
  have f0 := fun c0 c1 c2 c3 c4 => field_0 m c0 c1 c2 c3 c4 wDouble (fd _ (by decide)).1 (fd _ (by decide)).2.1 (fd _ (by decide)).2.2
  have n1 := itoa_c m a.who ha.who
  have n2 := itoa_c m a.whom ha.whom
  have n3 := itoa_c m a.amount ha.amount
  refine pure_sk (own := (owM 5)) Tryd.func30 (by kernel_rfl) mixed (by kernel_rfl)
    (.gc 46 ([]) ([AV.str (bs wf5)]) (AV.osl (0 : Nat) (1 : Nat) (0 : Nat) (4 : Nat)) ([some { es := (1 : Nat), n := (4 : Nat), mu := true, f := Rep.lst [[AV.str (bs wDouble)], [AV.str (bs wWho)], [AV.str (bs wWhom)], [AV.str (bs wAmount)]] }]) (.tt (.req ((0 : Int) ≤ (0 : Int) ∧ (0 : Int) < (↑(4) : Int)) (.gc 47 ([{ es := 5, n := 1, mu := true, f := Rep.lst [Cmd.cells a] }]) ([AV.own (0) (5) (0) (0) (5), AV.str (bs wDouble)]) (AV.raw (Value.pointer none)) ([some { es := (5 : Nat), n := (1 : Nat), mu := true, f := Rep.lst [[Zi (Cmd.kind a), Zi (Cmd.who a), Zi (Cmd.whom a), Zi (Cmd.amount a), AV.bool (Cmd.honest a)]] }]) (.ff (.tt (.req ((0 : Int) ≤ IntKind.wrap IntKind.i64 ((0 : Int) + (1 : Int)) ∧ IntKind.wrap IntKind.i64 ((0 : Int) + (1 : Int)) < (↑(4) : Int)) (.gc 47 ([{ es := 5, n := 1, mu := true, f := Rep.lst [Cmd.cells a] }]) ([AV.own (0) (5) (0) (0) (5), AV.str (bs wWho)]) (AV.own (0 : Nat) (5 : Nat) (0 : Nat) (1 : Nat) (1 : Nat)) ([some { es := (5 : Nat), n := (1 : Nat), mu := true, f := Rep.lst [[Zi (Cmd.kind a), Zi (Cmd.who a), Zi (Cmd.whom a), Zi (Cmd.amount a), AV.bool (Cmd.honest a)]] }]) (.tt (.sc (true) 48 ([Zi a.2]) (AV.str (bs (itoa (Cmd.who a)))) (.req ((0 : Int) ≤ IntKind.wrap IntKind.i64 ((0 : Int) + (1 : Int)) ∧ IntKind.wrap IntKind.i64 ((0 : Int) + (1 : Int)) < (↑(4) : Int)) (.tt (.req ((0 : Int) ≤ IntKind.wrap IntKind.i64 (IntKind.wrap IntKind.i64 ((0 : Int) + (1 : Int)) + (1 : Int)) ∧ IntKind.wrap IntKind.i64 (IntKind.wrap IntKind.i64 ((0 : Int) + (1 : Int)) + (1 : Int)) < (↑(4) : Int)) (.gc 47 ([{ es := 5, n := 1, mu := true, f := Rep.lst [Cmd.cells a] }]) ([AV.own (0) (5) (0) (0) (5), AV.str (bs wWhom)]) (AV.own (0 : Nat) (5 : Nat) (0 : Nat) (2 : Nat) (1 : Nat)) ([some { es := (5 : Nat), n := (1 : Nat), mu := true, f := Rep.lst [[Zi (Cmd.kind a), Zi (Cmd.who a), Zi (Cmd.whom a), Zi (Cmd.amount a), AV.bool (Cmd.honest a)]] }]) (.tt (.sc (true) 48 ([Zi a.3]) (AV.str (bs (itoa (Cmd.whom a)))) (.req ((0 : Int) ≤ IntKind.wrap IntKind.i64 (IntKind.wrap IntKind.i64 ((0 : Int) + (1 : Int)) + (1 : Int)) ∧ IntKind.wrap IntKind.i64 (IntKind.wrap IntKind.i64 ((0 : Int) + (1 : Int)) + (1 : Int)) < (↑(4) : Int)) (.tt (.req ((0 : Int) ≤ IntKind.wrap IntKind.i64 (IntKind.wrap IntKind.i64 (IntKind.wrap IntKind.i64 ((0 : Int) + (1 : Int)) + (1 : Int)) + (1 : Int)) ∧ IntKind.wrap IntKind.i64 (IntKind.wrap IntKind.i64 (IntKind.wrap IntKind.i64 ((0 : Int) + (1 : Int)) + (1 : Int)) + (1 : Int)) < (↑(4) : Int)) (.gc 47 ([{ es := 5, n := 1, mu := true, f := Rep.lst [Cmd.cells a] }]) ([AV.own (0) (5) (0) (0) (5), AV.str (bs wAmount)]) (AV.own (0 : Nat) (5 : Nat) (0 : Nat) (3 : Nat) (1 : Nat)) ([some { es := (5 : Nat), n := (1 : Nat), mu := true, f := Rep.lst [[Zi (Cmd.kind a), Zi (Cmd.who a), Zi (Cmd.whom a), Zi (Cmd.amount a), AV.bool (Cmd.honest a)]] }]) (.tt (.sc (true) 48 ([Zi a.4]) (AV.str (bs (itoa (Cmd.amount a)))) (.req ((0 : Int) ≤ IntKind.wrap IntKind.i64 (IntKind.wrap IntKind.i64 (IntKind.wrap IntKind.i64 ((0 : Int) + (1 : Int)) + (1 : Int)) + (1 : Int)) ∧ IntKind.wrap IntKind.i64 (IntKind.wrap IntKind.i64 (IntKind.wrap IntKind.i64 ((0 : Int) + (1 : Int)) + (1 : Int)) + (1 : Int)) < (↑(4) : Int)) (.ff (.out (AV.isl (1) (4) fun (r k : Nat) => atL (List.getD [[AV.str (bs wDouble)], [AV.str (bs (itoa a.2))], [AV.str (bs (itoa a.3))], [AV.str (bs (itoa a.4))]] (r + 0) []) k) [] (wlA (lineF { kind := (5 : Int), ws := [wDouble, wWho, wWhom, wAmount], whom := (0 : Int) } a)) [])))))))))))))))))))))))))
    (by kernel_rfl) ?_
  refine k_gc (c0) ?_
  refine k_tt ?_
  refine k_req ((by first | omega | decide)) ?_
  refine k_gc (f0 (Cmd.kind a) (Cmd.who a) (Cmd.whom a) (Cmd.amount a) (Cmd.honest a)) ?_
  refine k_ff ?_
  refine k_tt ?_
  refine k_req ((by first | omega | decide)) ?_
  refine k_gc ((field_1 m) (Cmd.kind a) (Cmd.who a) (Cmd.whom a) (Cmd.amount a) (Cmd.honest a)) ?_
  refine k_tt ?_
  refine k_sc (n1) ?_
  refine k_req ((by first | omega | decide)) ?_
  refine k_tt ?_
  refine k_req ((by first | omega | decide)) ?_
  refine k_gc ((field_2 m) (Cmd.kind a) (Cmd.who a) (Cmd.whom a) (Cmd.amount a) (Cmd.honest a)) ?_
  refine k_tt ?_
  refine k_sc (n2) ?_
  refine k_req ((by first | omega | decide)) ?_
  refine k_tt ?_
  refine k_req ((by first | omega | decide)) ?_
  refine k_gc ((field_3 m) (Cmd.kind a) (Cmd.who a) (Cmd.whom a) (Cmd.amount a) (Cmd.honest a)) ?_
  refine k_tt ?_
  refine k_sc (n3) ?_
  refine k_req ((by first | omega | decide)) ?_
  refine k_ff ?_
  exact k_out (Ent.isl (fun i j hi hj => by have e := Nat.lt_one_iff.1 hj; subst e; exact (match i, hi with | 0, _ | 1, _ | 2, _ | 3, _ => rfl)))

theorem line_6 (m : GP) (a : Cmd) (ha : CmdR a) : Pure Tryd.prog (gl0 m) 30 [.agg [.int .i64 6, .str (bs wf6), .int .i64 0], .agg a.cells] (wlA (lineF ⟨6, [wTrace, wWho], 0⟩ a)) := by
  have c0 := fields_6 m
  have f0 := fun c0 c1 c2 c3 c4 => field_0 m c0 c1 c2 c3 c4 wTrace (fd _ (by decide)).1 (fd _ (by decide)).2.1 (fd _ (by decide)).2.2
  have n1 := itoa_c m a.who ha.who
  refine pure_sk (own := (owM 5)) Tryd.func30 (by kernel_rfl) mixed (by kernel_rfl)
    (.gc 46 ([]) ([AV.str (bs wf6)]) (AV.osl (0 : Nat) (1 : Nat) (0 : Nat) (2 : Nat)) ([some { es := (1 : Nat), n := (2 : Nat), mu := true, f := Rep.lst [[AV.str (bs wTrace)], [AV.str (bs wWho)]] }]) (.tt (.req ((0 : Int) ≤ (0 : Int) ∧ (0 : Int) < (↑(2) : Int)) (.gc 47 ([{ es := 5, n := 1, mu := true, f := Rep.lst [Cmd.cells a] }]) ([AV.own (0) (5) (0) (0) (5), AV.str (bs wTrace)]) (AV.raw (Value.pointer none)) ([some { es := (5 : Nat), n := (1 : Nat), mu := true, f := Rep.lst [[Zi (Cmd.kind a), Zi (Cmd.who a), Zi (Cmd.whom a), Zi (Cmd.amount a), AV.bool (Cmd.honest a)]] }]) (.ff (.tt (.req ((0 : Int) ≤ IntKind.wrap IntKind.i64 ((0 : Int) + (1 : Int)) ∧ IntKind.wrap IntKind.i64 ((0 : Int) + (1 : Int)) < (↑(2) : Int)) (.gc 47 ([{ es := 5, n := 1, mu := true, f := Rep.lst [Cmd.cells a] }]) ([AV.own (0) (5) (0) (0) (5), AV.str (bs wWho)]) (AV.own (0 : Nat) (5 : Nat) (0 : Nat) (1 : Nat) (1 : Nat)) ([some { es := (5 : Nat), n := (1 : Nat), mu := true, f := Rep.lst [[Zi (Cmd.kind a), Zi (Cmd.who a), Zi (Cmd.whom a), Zi (Cmd.amount a), AV.bool (Cmd.honest a)]] }]) (.tt (.sc (true) 48 ([Zi a.2]) (AV.str (bs (itoa (Cmd.who a)))) (.req ((0 : Int) ≤ IntKind.wrap IntKind.i64 ((0 : Int) + (1 : Int)) ∧ IntKind.wrap IntKind.i64 ((0 : Int) + (1 : Int)) < (↑(2) : Int)) (.ff (.out (AV.isl (1) (2) fun (r k : Nat) => atL (List.getD [[AV.str (bs wTrace)], [AV.str (bs (itoa a.2))]] (r + 0) []) k) [] (wlA (lineF { kind := (6 : Int), ws := [wTrace, wWho], whom := (0 : Int) } a)) [])))))))))))))
    (by kernel_rfl) ?_
  refine k_gc (c0) ?_
  refine k_tt ?_
  refine k_req ((by first | omega | decide)) ?_
  refine k_gc (f0 (Cmd.kind a) (Cmd.who a) (Cmd.whom a) (Cmd.amount a) (Cmd.honest a)) ?_
  refine k_ff ?_
  refine k_tt ?_
  refine k_req ((by first | omega | decide)) ?_
  refine k_gc ((field_1 m) (Cmd.kind a) (Cmd.who a) (Cmd.whom a) (Cmd.amount a) (Cmd.honest a)) ?_
  refine k_tt ?_
  refine k_sc (n1) ?_
  refine k_req ((by first | omega | decide)) ?_
  refine k_ff ?_
  exact k_out (Ent.isl (fun i j hi hj => by have e := Nat.lt_one_iff.1 hj; subst e; exact (match i, hi with | 0, _ | 1, _ => rfl)))

theorem line_7 (m : GP) (a : Cmd) (ha : CmdR a) : Pure Tryd.prog (gl0 m) 30 [.agg [.int .i64 7, .str (bs wf7), .int .i64 0], .agg a.cells] (wlA (lineF ⟨7, [wClear], 0⟩ a)) := by
  have c0 := fields_7 m
  have f0 := fun c0 c1 c2 c3 c4 => field_0 m c0 c1 c2 c3 c4 wClear (fd _ (by decide)).1 (fd _ (by decide)).2.1 (fd _ (by decide)).2.2
  refine pure_sk (own := (owM 5)) Tryd.func30 (by kernel_rfl) mixed (by kernel_rfl)
    (.gc 46 ([]) ([AV.str (bs wf7)]) (AV.osl (0 : Nat) (1 : Nat) (0 : Nat) (1 : Nat)) ([some { es := (1 : Nat), n := (1 : Nat), mu := true, f := Rep.lst [[AV.str (bs wClear)]] }]) (.tt (.req ((0 : Int) ≤ (0 : Int) ∧ (0 : Int) < (↑(1) : Int)) (.gc 47 ([{ es := 5, n := 1, mu := true, f := Rep.lst [Cmd.cells a] }]) ([AV.own (0) (5) (0) (0) (5), AV.str (bs wClear)]) (AV.raw (Value.pointer none)) ([some { es := (5 : Nat), n := (1 : Nat), mu := true, f := Rep.lst [[Zi (Cmd.kind a), Zi (Cmd.who a), Zi (Cmd.whom a), Zi (Cmd.amount a), AV.bool (Cmd.honest a)]] }]) (.ff (.ff (.out (AV.isl (1) (1) fun (r k : Nat) => atL (List.getD [[AV.str (bs wClear)]] (r + 0) []) k) [] (wlA (lineF { kind := (7 : Int), ws := [wClear], whom := (0 : Int) } a)) [])))))))
    (by kernel_rfl) ?_
  refine k_gc (c0) ?_
  refine k_tt ?_
  refine k_req ((by first | omega | decide)) ?_
  refine k_gc (f0 (Cmd.kind a) (Cmd.who a) (Cmd.whom a) (Cmd.amount a) (Cmd.honest a)) ?_
  refine k_ff ?_
  refine k_ff ?_
  exact k_out (Ent.isl (fun i j hi hj => by have e := Nat.lt_one_iff.1 hj; subst e; exact (match i, hi with | 0, _ => rfl)))

theorem line_8 (m : GP) (a : Cmd) (ha : CmdR a) : Pure Tryd.prog (gl0 m) 30 [.agg [.int .i64 8, .str (bs wf8), .int .i64 0], .agg a.cells] (wlA (lineF ⟨8, [wTick, wAmount], 0⟩ a)) := by
  have c0 := fields_8 m
  have f0 := fun c0 c1 c2 c3 c4 => field_0 m c0 c1 c2 c3 c4 wTick (fd _ (by decide)).1 (fd _ (by decide)).2.1 (fd _ (by decide)).2.2
  have n3 := itoa_c m a.amount ha.amount
  refine pure_sk (own := (owM 5)) Tryd.func30 (by kernel_rfl) mixed (by kernel_rfl)
    (.gc 46 ([]) ([AV.str (bs wf8)]) (AV.osl (0 : Nat) (1 : Nat) (0 : Nat) (2 : Nat)) ([some { es := (1 : Nat), n := (2 : Nat), mu := true, f := Rep.lst [[AV.str (bs wTick)], [AV.str (bs wAmount)]] }]) (.tt (.req ((0 : Int) ≤ (0 : Int) ∧ (0 : Int) < (↑(2) : Int)) (.gc 47 ([{ es := 5, n := 1, mu := true, f := Rep.lst [Cmd.cells a] }]) ([AV.own (0) (5) (0) (0) (5), AV.str (bs wTick)]) (AV.raw (Value.pointer none)) ([some { es := (5 : Nat), n := (1 : Nat), mu := true, f := Rep.lst [[Zi (Cmd.kind a), Zi (Cmd.who a), Zi (Cmd.whom a), Zi (Cmd.amount a), AV.bool (Cmd.honest a)]] }]) (.ff (.tt (.req ((0 : Int) ≤ IntKind.wrap IntKind.i64 ((0 : Int) + (1 : Int)) ∧ IntKind.wrap IntKind.i64 ((0 : Int) + (1 : Int)) < (↑(2) : Int)) (.gc 47 ([{ es := 5, n := 1, mu := true, f := Rep.lst [Cmd.cells a] }]) ([AV.own (0) (5) (0) (0) (5), AV.str (bs wAmount)]) (AV.own (0 : Nat) (5 : Nat) (0 : Nat) (3 : Nat) (1 : Nat)) ([some { es := (5 : Nat), n := (1 : Nat), mu := true, f := Rep.lst [[Zi (Cmd.kind a), Zi (Cmd.who a), Zi (Cmd.whom a), Zi (Cmd.amount a), AV.bool (Cmd.honest a)]] }]) (.tt (.sc (true) 48 ([Zi a.4]) (AV.str (bs (itoa (Cmd.amount a)))) (.req ((0 : Int) ≤ IntKind.wrap IntKind.i64 ((0 : Int) + (1 : Int)) ∧ IntKind.wrap IntKind.i64 ((0 : Int) + (1 : Int)) < (↑(2) : Int)) (.ff (.out (AV.isl (1) (2) fun (r k : Nat) => atL (List.getD [[AV.str (bs wTick)], [AV.str (bs (itoa a.4))]] (r + 0) []) k) [] (wlA (lineF { kind := (8 : Int), ws := [wTick, wAmount], whom := (0 : Int) } a)) [])))))))))))))
    (by kernel_rfl) ?_
  refine k_gc (c0) ?_
  refine k_tt ?_
  refine k_req ((by first | omega | decide)) ?_
  refine k_gc (f0 (Cmd.kind a) (Cmd.who a) (Cmd.whom a) (Cmd.amount a) (Cmd.honest a)) ?_
  refine k_ff ?_
  refine k_tt ?_
  refine k_req ((by first | omega | decide)) ?_
  refine k_gc ((field_3 m) (Cmd.kind a) (Cmd.who a) (Cmd.whom a) (Cmd.amount a) (Cmd.honest a)) ?_
  refine k_tt ?_
  refine k_sc (n3) ?_
  refine k_req ((by first | omega | decide)) ?_
  refine k_ff ?_
  exact k_out (Ent.isl (fun i j hi hj => by have e := Nat.lt_one_iff.1 hj; subst e; exact (match i, hi with | 0, _ | 1, _ => rfl)))

def FM (i : Nat) : Go.Sp.Form := formL.getD i ⟨0, [], 0⟩
def FW (i : Nat) : Str := [wf0, wf1, wf2, wf3, wf4, wf5, wf6, wf7, wf8].getD i []
def fmA (i : Nat) : List AV := [.int .i64 (FM i).kind, .str (bs (FW i)), .int .i64 (FM i).whom]
theorem match_c (m : GP) (ws : List Str) (hw : ∀ w ∈ ws, w.length ≤ 281474976710656) (hn : ws.length < 9223372036854775808) (i : Nat) (hi : i < 9) : Pure Tryd.prog (gl0 m) 31 [.agg (fmA i), wlA ws] (.tup [.agg (Cmd.cells ((matchF (FM i) ws).getD .zero)), .bool (matchF (FM i) ws).isSome]) := by
  match i, hi with
  | 0, _ => exact match_0 m ws hw hn
  | 1, _ => exact match_1 m ws hw hn
  | 2, _ => exact match_2 m ws hw hn
  | 3, _ => exact match_3 m ws hw hn
  | 4, _ => exact match_4 m ws hw hn
  | 5, _ => exact match_5 m ws hw hn
  | 6, _ => exact match_6 m ws hw hn
  | 7, _ => exact match_7 m ws hw hn
  | 8, _ => exact match_8 m ws hw hn
theorem line_c (m : GP) (a : Cmd) (ha : CmdR a) (i : Nat) (hi : i < 9) : Pure Tryd.prog (gl0 m) 30 [.agg (fmA i), .agg a.cells] (wlA (lineF (FM i) a)) := by
  match i, hi with
  | 0, _ => exact line_0 m a ha
  | 1, _ => exact line_1 m a ha
  | 2, _ => exact line_2 m a ha
  | 3, _ => exact line_3 m a ha
  | 4, _ => exact line_4 m a ha
  | 5, _ => exact line_5 m a ha
  | 6, _ => exact line_6 m a ha
  | 7, _ => exact line_7 m a ha
  | 8, _ => exact line_8 m a ha
theorem forms_c (m : GP) : Pure Tryd.prog (gl0 m) 29 [] (.isl 3 9 fun i j => atL (fmA i) j) := by
  refine pure_sk (own := ow0) Tryd.func29 (by kernel_rfl) mixed (by kernel_rfl)
    (.out (AV.isl (3) (9) fun (r k : Nat) => atL (List.getD [[Zi 1, AV.str { data := #[(119 : UInt8), (105 : UInt8), (116 : UInt8), (104 : UInt8), (100 : UInt8), (114 : UInt8), (97 : UInt8), (119 : UInt8), (32 : UInt8), (87 : UInt8), (72 : UInt8), (79 : UInt8), (32 : UInt8), (65 : UInt8), (77 : UInt8), (79 : UInt8), (85 : UInt8), (78 : UInt8), (84 : UInt8)] }, Zi 0], [Zi 2, AV.str { data := #[(112 : UInt8), (97 : UInt8), (121 : UInt8), (32 : UInt8), (87 : UInt8), (72 : UInt8), (79 : UInt8), (32 : UInt8), (87 : UInt8), (72 : UInt8), (79 : UInt8), (77 : UInt8), (32 : UInt8), (65 : UInt8), (77 : UInt8), (79 : UInt8), (85 : UInt8), (78 : UInt8), (84 : UInt8)] }, Zi 0], [Zi 3, AV.str { data := #[(116 : UInt8), (114 : UInt8), (97 : UInt8), (110 : UInt8), (115 : UInt8), (102 : UInt8), (101 : UInt8), (114 : UInt8), (32 : UInt8), (87 : UInt8), (72 : UInt8), (79 : UInt8), (32 : UInt8), (87 : UInt8), (72 : UInt8), (79 : UInt8), (77 : UInt8), (32 : UInt8), (65 : UInt8), (77 : UInt8), (79 : UInt8), (85 : UInt8), (78 : UInt8), (84 : UInt8)] }, Zi 0], [Zi 4, AV.str { data := #[(100 : UInt8), (101 : UInt8), (112 : UInt8), (111 : UInt8), (115 : UInt8), (105 : UInt8), (116 : UInt8), (32 : UInt8), (109 : UInt8), (101 : UInt8), (114 : UInt8), (99 : UInt8), (104 : UInt8), (97 : UInt8), (110 : UInt8), (116 : UInt8), (32 : UInt8), (87 : UInt8), (72 : UInt8), (79 : UInt8)] }, Zi 0], [Zi 4, AV.str { data := #[(100 : UInt8), (101 : UInt8), (112 : UInt8), (111 : UInt8), (115 : UInt8), (105 : UInt8), (116 : UInt8), (32 : UInt8), (104 : UInt8), (111 : UInt8), (108 : UInt8), (100 : UInt8), (101 : UInt8), (114 : UInt8), (32 : UInt8), (87 : UInt8), (72 : UInt8), (79 : UInt8)] }, Zi 1], [Zi 5, AV.str { data := #[(100 : UInt8), (111 : UInt8), (117 : UInt8), (98 : UInt8), (108 : UInt8), (101 : UInt8), (32 : UInt8), (87 : UInt8), (72 : UInt8), (79 : UInt8), (32 : UInt8), (87 : UInt8), (72 : UInt8), (79 : UInt8), (77 : UInt8), (32 : UInt8), (65 : UInt8), (77 : UInt8), (79 : UInt8), (85 : UInt8), (78 : UInt8), (84 : UInt8)] }, Zi 0], [Zi 6, AV.str { data := #[(116 : UInt8), (114 : UInt8), (97 : UInt8), (99 : UInt8), (101 : UInt8), (32 : UInt8), (87 : UInt8), (72 : UInt8), (79 : UInt8)] }, Zi 0], [Zi 7, AV.str { data := #[(99 : UInt8), (108 : UInt8), (101 : UInt8), (97 : UInt8), (114 : UInt8)] }, Zi 0], [Zi 8, AV.str { data := #[(116 : UInt8), (105 : UInt8), (99 : UInt8), (107 : UInt8), (32 : UInt8), (65 : UInt8), (77 : UInt8), (79 : UInt8), (85 : UInt8), (78 : UInt8), (84 : UInt8)] }, Zi 0]] (r + 0) []) k) [] (AV.isl (3 : Nat) (9 : Nat) fun (i j : Nat) => atL (fmA i) j) [])
    (by kernel_rfl) ?_
  exact k_out (Ent.isl (fun i j hi hj => by exact (match i, hi with | 0, _ | 1, _ | 2, _ | 3, _ | 4, _ | 5, _ | 6, _ | 7, _ | 8, _ => match j, hj with | 0, _ | 1, _ | 2, _ => rfl)))


theorem formL_at {i : Nat} (hi : i < 9) : formL[i]? = some (FM i) := by
  match i, hi with | 0, _ | 1, _ | 2, _ | 3, _ | 4, _ | 5, _ | 6, _ | 7, _ | 8, _ => rfl
theorem find_at {α : Type} {f : Go.Sp.Form → Option α} {i : Nat} (hi : i < 9) (h : ∀ j, j < i → f (FM j) = none) : formL.findSome? f = (formL.drop i).findSome? f := by
  have e : formL.findSome? f = (formL.take i ++ formL.drop i).findSome? f := by rw [List.take_append_drop]
  rw [e, List.findSome?_append]
  have : (formL.take i).findSome? f = none := List.findSome?_eq_none_iff.2 fun x hx => by
    obtain ⟨j, hj, rfl⟩ := List.getElem_of_mem hx
    have hj' : j < i := by simp at hj; omega
    have k := formL_at (i := j) (by omega)
    rw [List.getElem_take]
    rw [(List.getElem?_eq_some_iff.1 k).2]
    exact h j hj'
  rw [this]; rfl
theorem find_s {α : Type} {f : Go.Sp.Form → Option α} {i : Nat} {a : α} (hi : i < 9) (h : ∀ j, j < i → f (FM j) = none) (h1 : f (FM i) = some a) : formL.findSome? f = some a := by
  rw [find_at hi h]
  have k := formL_at hi
  have hl : i < formL.length := hi
  rw [List.drop_eq_getElem_cons hl, (List.getElem?_eq_some_iff.1 k).2, List.findSome?_cons, h1]
theorem find_n {α : Type} {f : Go.Sp.Form → Option α} (h : ∀ j, j < 9 → f (FM j) = none) : formL.findSome? f = none := List.findSome?_eq_none_iff.2 fun x hx => by
  obtain ⟨j, hj, rfl⟩ := List.getElem_of_mem hx
  have hj' : j < 9 := hj
  rw [(List.getElem?_eq_some_iff.1 (formL_at hj')).2]
  exact h j hj'
def rdA (o : Option Cmd) : AV := .tup [.agg (Cmd.cells (o.getD .zero)), .bool o.isSome]

theorem rd_s {ws : List Str} {i : Nat} (q : i ≤ 9 ∧ ∀ j, j < i → matchF (FM j) ws = none) (hi : i < 9) (h : (matchF (FM i) ws).isSome = true) : AV.tup [.agg (Cmd.cells ((matchF (FM i) ws).getD .zero)), .bool true] = rdA (readF ws) := by
  obtain ⟨a, ha⟩ := Option.isSome_iff_exists.1 h
  have : readF ws = some a := find_s hi q.2 ha
  rw [this, ha]; rfl
theorem rd_n {ws : List Str} (q : ∀ j, j < 9 → matchF (FM j) ws = none) : AV.tup [.agg [.int .i64 0, .int .i64 0, .int .i64 0, .int .i64 0, .bool false], .bool false] = rdA (readF ws) := by
  have : readF ws = none := find_n q
  rw [this]; rfl

theorem read_c (m : GP) (ws : List Str) (hw : ∀ w ∈ ws, w.length ≤ 281474976710656) (hn : ws.length < 9223372036854775808) : Pure Tryd.prog (gl0 m) 28 [wlA ws] (rdA (readF ws)) := by
  have c1 := forms_c m
  have c2 := fun i hi => match_c m ws hw hn i hi
  refine pure_sk (own := ow0) Tryd.func28 (by kernel_rfl) mixed (by kernel_rfl)
    (.dc (true) 29 ([]) (AV.isl (3 : Nat) (9 : Nat) fun (i j : Nat) => atL (fmA i) j) (.loop ({ x : Nat // x ≤ (9 : Nat) ∧ (fun (x : Nat) => ∀ (j : Nat), j < x → matchF (FM j) ws = none) x }) (fun (x : { x : Nat // x ≤ (9 : Nat) ∧ (fun (x : Nat) => ∀ (j : Nat), j < x → matchF (FM j) ws = none) x }) => mkSt [0, 2, 8, 9, 10] [AV.isl (1) (List.length ws) fun (i x : Nat) => AV.str (bs (List.getD ws i [])), AV.own (0) (5) (0) (0) (5), AV.isl (3) (9) fun (i j : Nat) => atL (fmA i) j, Zi (↑(9) : Int), Zi (↑(x.1) : Int)] [some { es := 5, n := 1, mu := true, f := Rep.lst [[Zi 0, Zi 0, Zi 0, Zi 0, AV.bool false]] }]) (fun (x : { x : Nat // x ≤ (9 : Nat) ∧ (fun (x : Nat) => ∀ (j : Nat), j < x → matchF (FM j) ws = none) x }) => (9 : Nat) - x.1) (⟨(0 : Nat), ⟨of_decide_eq_true (id (Eq.refl true)), fun (j : Nat) (hj : j < (0 : Nat)) => absurd hj (Nat.not_lt_zero j)⟩⟩) ([0, 2, 8, 9, 10]) ([0]) ([AV.isl (1) (List.length ws) fun (i x : Nat) => AV.str (bs (List.getD ws i [])), AV.own (0) (5) (0) (0) (5), AV.isl (3) (9) fun (i j : Nat) => atL (fmA i) j, Zi (↑(9) : Int), Zi 0]) ([some { es := 5, n := 1, mu := true, f := Rep.lst [[Zi 0, Zi 0, Zi 0, Zi 0, AV.bool false]] }]) (fun x1 => (.br (decide ((↑x1.1 : Int) < (↑(9) : Int))) (.req ((0 : Int) ≤ (↑x1.1 : Int) ∧ (↑x1.1 : Int) < (↑(9) : Int)) (.sc (true) 31 ([AV.agg [Zi (FM (Int.toNat (↑(x1.1) : Int))).1, AV.str (bs (FW (Int.toNat (↑x1.1 : Int)))), Zi (FM (Int.toNat (↑(x1.1) : Int))).3], AV.isl (1) (List.length ws) fun (i x : Nat) => AV.str (bs (List.getD ws i []))]) (AV.tup [AV.agg (Cmd.cells (Option.getD (matchF (FM (Int.toNat (↑(x1.1) : Int))) ws) Cmd.zero)), AV.bool (Option.isSome (matchF (FM (Int.toNat (↑(x1.1) : Int))) ws))]) (.br (Option.isSome (matchF (FM (Int.toNat (↑x1.1 : Int))) ws)) (.out (AV.tup [AV.agg (Cmd.cells (Option.getD (matchF (FM (Int.toNat (↑(x1.1) : Int))) ws) Cmd.zero)), AV.bool true]) [] (rdA (readF ws)) []) (.again (Again (0) (fun (x : { x : Nat // x ≤ (9 : Nat) ∧ (fun (x : Nat) => ∀ (j : Nat), j < x → matchF (FM j) ws = none) x }) => mkSt [0, 2, 8, 9, 10] [AV.isl (1) (List.length ws) fun (i x : Nat) => AV.str (bs (List.getD ws i [])), AV.own (0) (5) (0) (0) (5), AV.isl (3) (9) fun (i j : Nat) => atL (fmA i) j, Zi (↑(9) : Int), Zi (↑(x.1) : Int)] [some { es := 5, n := 1, mu := true, f := Rep.lst [[Zi 0, Zi 0, Zi 0, Zi 0, AV.bool false]] }]) (fun (x : { x : Nat // x ≤ (9 : Nat) ∧ (fun (x : Nat) => ∀ (j : Nat), j < x → matchF (FM j) ws = none) x }) => (9 : Nat) - x.1) x1) ([0, 2, 8, 9, 10]) ([0]) ([AV.isl (1) (List.length ws) fun (i x : Nat) => AV.str (bs (List.getD ws i [])), AV.own (0) (5) (0) (0) (5), AV.isl (3) (9) fun (i j : Nat) => atL (fmA i) j, Zi (↑(9) : Int), Zi (IntKind.wrap IntKind.i64 ((↑x1.1 : Int) + (1 : Int)))]) ([some { es := 5, n := 1, mu := true, f := Rep.lst [[Zi 0, Zi 0, Zi 0, Zi 0, AV.bool false]] }]))))) (.out (AV.tup [AV.agg [Zi 0, Zi 0, Zi 0, Zi 0, AV.bool false], AV.bool false]) [] (rdA (readF ws)) [])))))
    (by kernel_rfl) ?_
  refine k_dc (c1) ?_
  refine k_loop (fun _ hs => hs.le (by repeat' (first | exact trivial | (first | exact Ent.refl _ | exact inc_ent (by omega) | exact Ent.nil rfl | exact Ent.of_eq (congrArg (AV.osl _ _ _) (by first | omega | (dsimp only; omega))) | exact Ent.of_eq (congrArg (AV.int _) (by first | omega | (dsimp only; omega)))) | refine And.intro ?_ ?_)) (by repeat' (first | exact trivial | (first | exact ObEnt.refl _ | exact ObEnt.junk | exact ObEnt.zero | exact ObEnt.push rfl rfl | exact ObEnt.pushRow rfl | exact ObEnt.len (by omega) | exact ObEnt.row (by repeat' (first | exact trivial | (first | exact Ent.refl _ | exact inc_ent (by omega) | exact Ent.nil rfl | exact Ent.of_eq (congrArg (AV.osl _ _ _) (by first | omega | (dsimp only; omega))) | exact Ent.of_eq (congrArg (AV.int _) (by first | omega | (dsimp only; omega)))) | refine And.intro ?_ ?_))) | refine And.intro ?_ ?_))) (fun x1 => ?_)
  try (have q1 := x1.2; dsimp only at q1)
  have e1 := wI (n := (x1.1 : Int) + 1) (by omega) (by omega)
  refine k_br (fun h2 => ?_) (fun h2 => ?_)
  · have g2 := cnd_dec_t h2
    refine k_req (by first | omega | (simp only [Int.toNat_natCast]; omega)) ?_
    refine k_sc (c2 (Int.toNat (↑(x1.1) : Int)) ((by simp only [Int.toNat_natCast]; omega))) ?_
    refine k_br (fun h5 => ?_) (fun h5 => ?_)
    · have g5 := cnd_id_t h5
      try simp only [Int.toNat_natCast] at g5
      exact k_out ((Ent.of_eq (by simp only [Int.toNat_natCast] at h5 ⊢; exact rd_s q1 (by omega) h5)))
    · have g5 := cnd_id_f h5
      try simp only [Int.toNat_natCast] at g5
      exact k_again (⟨x1.1 + 1, by omega, fun j hj => by rcases Nat.lt_succ_iff_lt_or_eq.1 hj with hj | hj; (· exact q1.2 j hj); (· rw [hj]; simpa using h5)⟩) (fun _ hs => hs.le (by repeat' (first | exact trivial | (first | exact Ent.refl _ | exact inc_ent (by omega) | exact Ent.nil rfl | exact Ent.of_eq (congrArg (AV.osl _ _ _) (by first | omega | (dsimp only; omega))) | exact Ent.of_eq (congrArg (AV.int _) (by first | omega | (dsimp only; omega)))) | refine And.intro ?_ ?_)) (by repeat' (first | exact trivial | (first | exact ObEnt.refl _ | exact ObEnt.junk | exact ObEnt.zero | exact ObEnt.push rfl rfl | exact ObEnt.pushRow rfl | exact ObEnt.len (by omega) | exact ObEnt.row (by repeat' (first | exact trivial | (first | exact Ent.refl _ | exact inc_ent (by omega) | exact Ent.nil rfl | exact Ent.of_eq (congrArg (AV.osl _ _ _) (by first | omega | (dsimp only; omega))) | exact Ent.of_eq (congrArg (AV.int _) (by first | omega | (dsimp only; omega)))) | refine And.intro ?_ ?_))) | refine And.intro ?_ ?_))) (by first | omega | (dsimp only; omega) | (simp; omega))
  · have g2 := cnd_dec_f h2
    exact k_out (Ent.of_eq (rd_n (fun j hj => q1.2 j (by omega))))


theorem nd_lt : ∀ (k u : Nat), u < 10 ^ (k + 1) → nDigits u ≤ k + 1
  | 0, u, h => by rw [nDigits_small (by simpa using h)]; omega
  | k + 1, u, h => by
    by_cases h10 : u < 10
    · rw [nDigits_small h10]; omega
    · rw [nDigits_big h10]
      have := nd_lt k (u / 10) (by rw [Nat.pow_succ] at h; omega)
      omega
theorem itoa_len {n : Int} (h : iR n) : (itoa n).length ≤ 21 := by
  have e : (10 : Nat) ^ 20 = 100000000000000000000 := by decide
  unfold itoa
  obtain ⟨h1, h2⟩ := h
  split
  · rw [List.length_cons, decDigits_length]
    have := nd_lt 19 n.natAbs (by omega)
    omega
  · rw [decDigits_length]
    have := nd_lt 19 n.toNat (by omega)
    omega
theorem joinS_len : ∀ (ws : List Str) (n : Nat), (∀ w ∈ ws, w.length ≤ n) → (joinS ws).length ≤ ws.length * (n + 1)
  | [], n, _ => Nat.zero_le _
  | [w], n, h => by rw [joinS_one]; have := h w (List.mem_cons_self ..); simp; omega
  | w :: v :: ws, n, h => by
    rw [joinS_cons, List.length_append, List.length_cons]
    have h1 := h w (List.mem_cons_self ..)
    have h2 := joinS_len (v :: ws) n fun x hx => h x (List.mem_cons_of_mem _ hx)
    rw [List.length_cons (a := w), Nat.succ_mul]
    omega
theorem lineF_len {a : Cmd} (ha : CmdR a) (i : Nat) (hi : i < 9) : (∀ w ∈ lineF (FM i) a, w.length ≤ 21) ∧ (lineF (FM i) a).length ≤ 4 := by
  have k : (FM i).ws.length ≤ 4 ∧ ∀ w ∈ (FM i).ws, w.length ≤ 21 := by
    match i, hi with | 0, _ | 1, _ | 2, _ | 3, _ | 4, _ | 5, _ | 6, _ | 7, _ | 8, _ => exact ⟨by decide, by decide⟩
  refine ⟨fun w hw => ?_, by unfold lineF; rw [List.length_map]; exact k.1⟩
  unfold lineF at hw
  obtain ⟨p, hp, rfl⟩ := List.mem_map.1 hw
  split
  · exact k.2 p hp
  · refine itoa_len ?_
    unfold Cmd.get
    split
    · exact ha.who
    · exact ha.whom
    · exact ha.amount
theorem txt1 (f : Go.Sp.Form) (a : Cmd) : textF1 f a = if ((matchF f (lineF f a)).isSome && ((((matchF f (lineF f a)).getD .zero).kind == a.kind) && ((((matchF f (lineF f a)).getD .zero).who == a.who) && ((((matchF f (lineF f a)).getD .zero).whom == a.whom) && ((((matchF f (lineF f a)).getD .zero).amount == a.amount) && ((((matchF f (lineF f a)).getD .zero).honest == a.honest) && true)))))) = true then some (joinS (lineF f a)) else none := by
  unfold textF1
  cases matchF f (lineF f a) with
  | none => rfl
  | some b =>
    simp only [Option.isSome_some, Option.getD_some, Bool.true_and, Bool.and_true]
    rfl

def txA (o : Option Str) : AV := match o with | some s => .tup [.str (bs s), .int .i64 0] | none => .tup [.str (bs []), .int .i64 1]

theorem text_c (m : GP) (a : Cmd) (ha : CmdR a) : Pure Tryd.prog (gl0 m) 10 [.agg a.cells] (txA (textF a)) := by
  have c1 := forms_c m
  have c2 := fun i hi => line_c m a ha i hi
  have c3 := fun i hi => match_c m (lineF (FM i) a) (fun w hw => Nat.le_trans ((lineF_len ha i hi).1 w hw) (by decide)) (Nat.lt_of_le_of_lt (lineF_len ha i hi).2 (by decide)) i hi
  have c4 := fun i (hi : i < 9) => join_c m (lineF (FM i) a) (by have k := lineF_len ha i hi; have := joinS_len _ 21 k.1; omega) (Nat.le_trans (lineF_len ha i hi).2 (by decide))
  refine pure_sk (own := ow0) Tryd.func10 (by kernel_rfl) mixed (by kernel_rfl)
    (.dc (true) 29 ([]) (AV.isl (3 : Nat) (9 : Nat) fun (i j : Nat) => atL (fmA i) j) (.loop ({ x : Nat // x ≤ (9 : Nat) ∧ (fun (x : Nat) => ∀ (j : Nat), j < x → textF1 (FM j) a = none) x }) (fun (x : { x : Nat // x ≤ (9 : Nat) ∧ (fun (x : Nat) => ∀ (j : Nat), j < x → textF1 (FM j) a = none) x }) => mkSt [1, 9, 10, 11] [AV.own (0) (5) (0) (0) (5), AV.isl (3) (9) fun (i j : Nat) => atL (fmA i) j, Zi (↑(9) : Int), Zi (↑(x.1) : Int)] [some { es := 5, n := 1, mu := true, f := Rep.lst [Cmd.cells a] }]) (fun (x : { x : Nat // x ≤ (9 : Nat) ∧ (fun (x : Nat) => ∀ (j : Nat), j < x → textF1 (FM j) a = none) x }) => (9 : Nat) - x.1) (⟨(0 : Nat), ⟨of_decide_eq_true (id (Eq.refl true)), fun (j : Nat) (hj : j < (0 : Nat)) => absurd hj (Nat.not_lt_zero j)⟩⟩) ([1, 9, 10, 11]) ([0]) ([AV.own (0) (5) (0) (0) (5), AV.isl (3) (9) fun (i j : Nat) => atL (fmA i) j, Zi (↑(9) : Int), Zi 0]) ([some { es := 5, n := 1, mu := true, f := Rep.lst [Cmd.cells a] }]) (fun x1 => (.br (decide ((↑x1.1 : Int) < (↑(9) : Int))) (.req ((0 : Int) ≤ (↑x1.1 : Int) ∧ (↑x1.1 : Int) < (↑(9) : Int)) (.dc (true) 30 ([AV.agg [Zi (FM (Int.toNat (↑(x1.1) : Int))).1, AV.str (bs (FW (Int.toNat (↑x1.1 : Int)))), Zi (FM (Int.toNat (↑(x1.1) : Int))).3], AV.agg (Cmd.cells a)]) (wlA (lineF (FM (Int.toNat (↑(x1.1) : Int))) a)) (.sc (true) 31 ([AV.agg [Zi (FM (Int.toNat (↑(x1.1) : Int))).1, AV.str (bs (FW (Int.toNat (↑x1.1 : Int)))), Zi (FM (Int.toNat (↑(x1.1) : Int))).3], AV.isl (1) (List.length (lineF (FM (Int.toNat (↑(x1.1) : Int))) a)) fun (i x : Nat) => AV.str (bs (List.getD (lineF (FM (Int.toNat (↑(x1.1) : Int))) a) i []))]) (AV.tup [AV.agg (Cmd.cells (Option.getD (matchF (FM (Int.toNat (↑(x1.1) : Int))) (lineF (FM (Int.toNat (↑(x1.1) : Int))) a)) Cmd.zero)), AV.bool (Option.isSome (matchF (FM (Int.toNat (↑(x1.1) : Int))) (lineF (FM (Int.toNat (↑(x1.1) : Int))) a)))]) (.br (Option.isSome (matchF (FM (Int.toNat (↑x1.1 : Int))) (lineF (FM (Int.toNat (↑x1.1 : Int))) a)) && ((Option.getD (matchF (FM (Int.toNat (↑(x1.1) : Int))) (lineF (FM (Int.toNat (↑(x1.1) : Int))) a)) Cmd.zero).1 == a.1 && ((Option.getD (matchF (FM (Int.toNat (↑(x1.1) : Int))) (lineF (FM (Int.toNat (↑(x1.1) : Int))) a)) Cmd.zero).2 == a.2 && ((Option.getD (matchF (FM (Int.toNat (↑(x1.1) : Int))) (lineF (FM (Int.toNat (↑(x1.1) : Int))) a)) Cmd.zero).3 == a.3 && ((Option.getD (matchF (FM (Int.toNat (↑(x1.1) : Int))) (lineF (FM (Int.toNat (↑(x1.1) : Int))) a)) Cmd.zero).4 == a.4 && ((Option.getD (matchF (FM (Int.toNat (↑(x1.1) : Int))) (lineF (FM (Int.toNat (↑(x1.1) : Int))) a)) Cmd.zero).5 == a.5 && true)))))) (.sc (true) 27 ([AV.isl (1) (List.length (lineF (FM (Int.toNat (↑(x1.1) : Int))) a)) fun (i x : Nat) => AV.str (bs (List.getD (lineF (FM (Int.toNat (↑(x1.1) : Int))) a) i [])), AV.str { data := #[(32 : UInt8)] }]) (AV.str (bs (joinS (lineF (FM (Int.toNat (↑(x1.1) : Int))) a)))) (.out (AV.tup [AV.str (bs (joinS (lineF (FM (Int.toNat (↑x1.1 : Int))) a))), Zi 0]) [] (txA (textF a)) [])) (.again (Again (0) (fun (x : { x : Nat // x ≤ (9 : Nat) ∧ (fun (x : Nat) => ∀ (j : Nat), j < x → textF1 (FM j) a = none) x }) => mkSt [1, 9, 10, 11] [AV.own (0) (5) (0) (0) (5), AV.isl (3) (9) fun (i j : Nat) => atL (fmA i) j, Zi (↑(9) : Int), Zi (↑(x.1) : Int)] [some { es := 5, n := 1, mu := true, f := Rep.lst [Cmd.cells a] }]) (fun (x : { x : Nat // x ≤ (9 : Nat) ∧ (fun (x : Nat) => ∀ (j : Nat), j < x → textF1 (FM j) a = none) x }) => (9 : Nat) - x.1) x1) ([1, 9, 10, 11]) ([0]) ([AV.own (0) (5) (0) (0) (5), AV.isl (3) (9) fun (i j : Nat) => atL (fmA i) j, Zi (↑(9) : Int), Zi (IntKind.wrap IntKind.i64 ((↑x1.1 : Int) + (1 : Int)))]) ([some { es := 5, n := 1, mu := true, f := Rep.lst [Cmd.cells a] }])))))) (.out (AV.tup [AV.str { data := #[] }, Zi 1]) [] (txA (textF a)) [])))))
    (by kernel_rfl) ?_
  refine k_dc (c1) ?_
  refine k_loop (fun _ hs => hs.le (by repeat' (first | exact trivial | (first | exact Ent.refl _ | exact inc_ent (by omega) | exact Ent.nil rfl | exact Ent.of_eq (congrArg (AV.osl _ _ _) (by first | omega | (dsimp only; omega))) | exact Ent.of_eq (congrArg (AV.int _) (by first | omega | (dsimp only; omega)))) | refine And.intro ?_ ?_)) (by repeat' (first | exact trivial | (first | exact ObEnt.refl _ | exact ObEnt.junk | exact ObEnt.zero | exact ObEnt.push rfl rfl | exact ObEnt.pushRow rfl | exact ObEnt.len (by omega) | exact ObEnt.row (by repeat' (first | exact trivial | (first | exact Ent.refl _ | exact inc_ent (by omega) | exact Ent.nil rfl | exact Ent.of_eq (congrArg (AV.osl _ _ _) (by first | omega | (dsimp only; omega))) | exact Ent.of_eq (congrArg (AV.int _) (by first | omega | (dsimp only; omega)))) | refine And.intro ?_ ?_))) | refine And.intro ?_ ?_))) (fun x1 => ?_)
  try (have q1 := x1.2; dsimp only at q1)
  have e1 := wI (n := (x1.1 : Int) + 1) (by omega) (by omega)
  refine k_br (fun h2 => ?_) (fun h2 => ?_)
  · have g2 := cnd_dec_t h2
    refine k_req (by first | omega | (simp only [Int.toNat_natCast]; omega)) ?_
    refine k_dc (c2 (Int.toNat (↑(x1.1) : Int)) ((by simp only [Int.toNat_natCast]; omega))) ?_
    refine k_sc (c3 (Int.toNat (↑(x1.1) : Int)) ((by simp only [Int.toNat_natCast]; omega))) ?_
    refine k_br (fun h6 => ?_) (fun h6 => ?_)
    · have g6 := (cnd_and_t cnd_id_t (cnd_and_t cnd_beq_t (cnd_and_t cnd_beq_t (cnd_and_t cnd_beq_t (cnd_and_t cnd_beq_t (cnd_and_t cnd_id_t cnd_id_t)))))) h6
      try simp only [Int.toNat_natCast] at g6
      refine k_sc (c4 (Int.toNat (↑(x1.1) : Int)) ((by simp only [Int.toNat_natCast]; omega))) ?_
      exact k_out ((Ent.of_eq (by simp only [Int.toNat_natCast] at h6 ⊢; rw [show textF a = some _ from find_s (by omega) q1.2 (by rw [txt1, if_pos h6])]; rfl)))
    · have g6 := (cnd_and_f cnd_id_f (cnd_and_f cnd_beq_f (cnd_and_f cnd_beq_f (cnd_and_f cnd_beq_f (cnd_and_f cnd_beq_f (cnd_and_f cnd_id_f cnd_id_f)))))) h6
      try simp only [Int.toNat_natCast] at g6
      exact k_again (⟨x1.1 + 1, by omega, fun j hj => by rcases Nat.lt_succ_iff_lt_or_eq.1 hj with hj | hj; (· exact q1.2 j hj); (· rw [hj, txt1]; exact if_neg (by simp only [Int.toNat_natCast] at h6; rw [h6]; decide))⟩) (fun _ hs => hs.le (by repeat' (first | exact trivial | (first | exact Ent.refl _ | exact inc_ent (by omega) | exact Ent.nil rfl | exact Ent.of_eq (congrArg (AV.osl _ _ _) (by first | omega | (dsimp only; omega))) | exact Ent.of_eq (congrArg (AV.int _) (by first | omega | (dsimp only; omega)))) | refine And.intro ?_ ?_)) (by repeat' (first | exact trivial | (first | exact ObEnt.refl _ | exact ObEnt.junk | exact ObEnt.zero | exact ObEnt.push rfl rfl | exact ObEnt.pushRow rfl | exact ObEnt.len (by omega) | exact ObEnt.row (by repeat' (first | exact trivial | (first | exact Ent.refl _ | exact inc_ent (by omega) | exact Ent.nil rfl | exact Ent.of_eq (congrArg (AV.osl _ _ _) (by first | omega | (dsimp only; omega))) | exact Ent.of_eq (congrArg (AV.int _) (by first | omega | (dsimp only; omega)))) | refine And.intro ?_ ?_))) | refine And.intro ?_ ?_))) (by first | omega | (dsimp only; omega) | (simp; omega))
  · have g2 := cnd_dec_f h2
    exact k_out (Ent.of_eq (by rw [show textF a = none from find_n fun j hj => q1.2 j (by omega)]; rfl))


def parC (s : Str) : Cmd := if s.length > 100 then .zero else (readF (spl 32 s)).getD .zero
def parE (s : Str) : Int := if s.length > 100 then 5 else if (readF (spl 32 s)).isSome = true then 0 else 3
def prA (s : Str) : AV := .tup [.agg (parC s).cells, .int .i64 (parE s)]

theorem pr_1 {s : Str} (h : ((bs s).size : Int) > 100) : AV.tup [.agg [.int .i64 0, .int .i64 0, .int .i64 0, .int .i64 0, .bool false], .int .i64 5] = prA s := by
  rw [bs_size] at h
  have h : s.length > 100 := by omega
  unfold prA parC parE; rw [if_pos h, if_pos h]; rfl
theorem pr_2 {s : Str} (h : ¬ ((bs s).size : Int) > 100) (h2 : (readF (spl 32 s)).isSome = false) : AV.tup [.agg [.int .i64 0, .int .i64 0, .int .i64 0, .int .i64 0, .bool false], .int .i64 3] = prA s := by
  rw [bs_size] at h
  have h : ¬ s.length > 100 := by omega
  unfold prA parC parE; rw [if_neg h, if_neg h, h2]
  cases e : readF (spl 32 s) with
  | none => rfl
  | some a => rw [e] at h2; cases h2
theorem pr_3 {s : Str} (h : ¬ ((bs s).size : Int) > 100) (h2 : (readF (spl 32 s)).isSome = true) : AV.tup [.agg (Cmd.cells ((readF (spl 32 s)).getD .zero)), .int .i64 0] = prA s := by
  rw [bs_size] at h
  have h : ¬ s.length > 100 := by omega
  unfold prA parC parE; rw [if_neg h, if_neg h, h2]; rfl
theorem neF {a : Str} (h : ((bs a).toList == ByteArray.toList ⟨#[]⟩) = false) : a ≠ [] := eqF (b := []) h
theorem neT {a : Str} (h : ((bs a).toList == ByteArray.toList ⟨#[]⟩) = true) : a = [] := eqT (b := []) h

theorem parse_c (m : GP) (s : Str) (hs : s.length < 4294967281) : Pure Tryd.prog (gl0 m) 9 [.str (bs s)] (prA s) := by
  have c1 := split_c m 32 s hs
  have k := spl_len 32 s
  have c2 := read_c m (spl 32 s) (fun w hw => Nat.le_trans (k.2 w hw) (by omega)) (by omega)
  refine pure_sk (own := ow0) Tryd.func9 (by kernel_rfl) mixed (by kernel_rfl)
    (.br (decide ((↑(ByteArray.size (bs s)) : Int) > (100 : Int))) (.out (AV.tup [AV.agg [Zi 0, Zi 0, Zi 0, Zi 0, AV.bool false], Zi 5]) [] (prA s) []) (.dc (true) 16 ([AV.str (bs s), AV.str { data := #[(32 : UInt8)] }]) (AV.isl (1 : Nat) (List.length (spl (32 : UInt8) s)) fun (i x : Nat) => AV.str (bs (List.getD (spl (32 : UInt8) s) i []))) (.sc (true) 28 ([AV.isl (1) (List.length (spl (32 : UInt8) s)) fun (i x : Nat) => AV.str (bs (List.getD (spl (32 : UInt8) s) i []))]) (rdA (readF (spl (32 : UInt8) s))) (.br (!Option.isSome (readF (spl (32 : UInt8) s))) (.out (AV.tup [AV.agg [Zi 0, Zi 0, Zi 0, Zi 0, AV.bool false], Zi 3]) [] (prA s) []) (.out (AV.tup [AV.agg (Cmd.cells (Option.getD (readF (spl (32 : UInt8) s)) Cmd.zero)), Zi 0]) [] (prA s) [])))))
    (by kernel_rfl) ?_
  refine k_br (fun h0 => ?_) (fun h0 => ?_)
  · have g0 := cnd_dec_t h0
    exact k_out (Ent.of_eq (pr_1 g0))
  · have g0 := cnd_dec_f h0
    refine k_dc (c1) ?_
    refine k_sc (c2) ?_
    refine k_br (fun h4 => ?_) (fun h4 => ?_)
    · have g4 := (cnd_not_t cnd_id_f) h4
      exact k_out (Ent.of_eq (pr_2 g0 g4))
    · have g4 := (cnd_not_f cnd_id_t) h4
      exact k_out (Ent.of_eq (pr_3 g0 g4))



theorem par_lin {a : Cmd} {ws : List Str} (h : Lin a ws) : prA (joinS ws) = .tup [.agg a.cells, .int .i64 0] := by
  have hl := lin_len h
  unfold prA parC parE
  rw [if_neg (by omega), if_neg (by omega), lin_spl h, readF_iff.2 h]; rfl

theorem awake_t (m : GP) : Pure Tryd.prog (gl0 m) 10 [.agg [.int .i64 4, .int .i64 2, .int .i64 1, .int .i64 0, .bool true]] (.tup [.str (bs [100, 101, 112, 111, 115, 105, 116, 32, 104, 111, 108, 100, 101, 114, 32, 50]), .int .i64 0]) := by
  have L2 : Lin ⟨4, 2, 1, 0, true⟩ [wDeposit, wHolder, itoa 2] := .holder ⟨by decide, by decide⟩
  have e2 : itoa 2 = [50] := itoa_d1 (n := 2) (by decide)
  have p2 := lin_text L2
  rw [e2] at p2
  have c2 := text_c m ⟨4, 2, 1, 0, true⟩ (lin_R L2)
  rw [p2, show joinS [wDeposit, wHolder, [50]] = [100, 101, 112, 111, 115, 105, 116, 32, 104, 111, 108, 100, 101, 114, 32, 50] by decide] at c2
  exact c2

theorem awake_c (m : GP) : Pure Tryd.prog (gl0 m) 8 [] (.bool true) := by
  have L1 : Lin ⟨2, 0, 1, 25, true⟩ [wPay, itoa 0, itoa 1, itoa 25] := .pay ⟨by decide, by decide⟩ ⟨by decide, by decide⟩ ⟨by decide, by decide⟩
  have e0 : itoa 0 = [48] := itoa_d1 (n := 0) (by decide)
  have e1 : itoa 1 = [49] := itoa_d1 (n := 1) (by decide)
  have e25 : itoa 25 = [50, 53] := itoa_d2 (n := 25) (by decide) (by decide)
  have p1 := par_lin L1
  rw [e0, e1, e25] at p1
  have c1 := parse_c m [112, 97, 121, 32, 48, 32, 49, 32, 50, 53] (by decide)
  rw [show [112, 97, 121, 32, 48, 32, 49, 32, 50, 53] = joinS [wPay, [48], [49], [50, 53]] by decide, p1] at c1
  rw [show joinS [wPay, [48], [49], [50, 53]] = [112, 97, 121, 32, 48, 32, 49, 32, 50, 53] by decide] at c1
  have c3 := awake_t m
  refine pure_sk (own := ow0) Tryd.func8 (by kernel_rfl) mixed (by kernel_rfl)
    (.sc (true) 9 ([AV.str { data := #[(112 : UInt8), (97 : UInt8), (121 : UInt8), (32 : UInt8), (48 : UInt8), (32 : UInt8), (49 : UInt8), (32 : UInt8), (50 : UInt8), (53 : UInt8)] }]) (AV.tup [AV.agg (Cmd.cells { kind := (2 : Int), who := (0 : Int), whom := (1 : Int), amount := (25 : Int), honest := true }), Zi 0]) (.sc (true) 10 ([AV.agg [Zi 4, Zi 2, Zi 1, Zi 0, AV.bool true]]) (AV.tup [AV.str (bs [(100 : UInt8), (101 : UInt8), (112 : UInt8), (111 : UInt8), (115 : UInt8), (105 : UInt8), (116 : UInt8), (32 : UInt8), (104 : UInt8), (111 : UInt8), (108 : UInt8), (100 : UInt8), (101 : UInt8), (114 : UInt8), (32 : UInt8), (50 : UInt8)]), Zi 0]) (.out (AV.bool true) [] (AV.bool true) [])))
    (by kernel_rfl) ?_
  refine k_sc (c1) ?_
  refine k_sc (c3) ?_
  exact k_out (Ent.of_eq (by first | rfl | simp_all))


end Go.Proofs.YtbmdmoknnlhdoaaDoor

namespace Go.Sp
open Go Go.Am Go.Lib
def blk (t : Bool) : Str := if t = true then [32, 9] else [32, 32]
end Go.Sp

namespace Go.Proofs.YtbmdmoknnlhdoaaDoor
open Go Go.Am Go.Sp Go.Lib Go.RowKit
set_option maxRecDepth 100000

def rowS (w : Str) : List AV := [.str (bs w)]
theorem z2 (a b : UInt8) : (ByteArray.mk #[a, b]).size = 2 := rfl
end Go.Proofs.YtbmdmoknnlhdoaaDoor

namespace Go.Sp
open Go Go.Am Go.Lib
def rnV (s : Str) : Int := if numF1 s = true then (decV s : Int) else 0
theorem drop_at {s : Str} {i : Nat} (h : i < s.length) : s.drop i = s[i] :: s.drop (i + 1) := List.drop_eq_getElem_cons h
theorem wgo_end {s now : Str} {i : Nat} {out : List Str} (h : s.length ≤ i) (hq : wordsR s = out ++ wordsGo now (s.drop i)) : wordsR s = out ++ if now = [] then [] else [now] := by
  rw [List.drop_eq_nil_of_le h] at hq; exact hq
theorem wgo_cut {s now : Str} {i : Nat} {out : List Str} (h : i < s.length) (hb : s[i] = 35) (hq : wordsR s = out ++ wordsGo now (s.drop i)) : wordsR s = out ++ if now = [] then [] else [now] := by
  rw [drop_at h, hb] at hq; exact hq
theorem wgo_in {s now : Str} {i : Nat} {out : List Str} (h : i < s.length) (h35 : s[i] ≠ 35) (hb : s[i] ≠ 32 ∧ s[i] ≠ 9) (hq : wordsR s = out ++ wordsGo now (s.drop i)) : wordsR s = out ++ wordsGo (now ++ [s[i]]) (s.drop (i + 1)) := by
  rw [drop_at h, wordsGo, if_neg h35, if_pos hb] at hq; exact hq
theorem wgo_n {s : Str} {i : Nat} {out : List Str} (h : i < s.length) (h35 : s[i] ≠ 35) (hb : ¬ (s[i] ≠ 32 ∧ s[i] ≠ 9)) (hq : wordsR s = out ++ wordsGo [] (s.drop i)) : wordsR s = out ++ wordsGo [] (s.drop (i + 1)) := by
  rw [drop_at h, wordsGo, if_neg h35, if_neg hb, if_pos rfl] at hq; exact hq
theorem wgo_w {s now : Str} {i : Nat} {out : List Str} (h : i < s.length) (h35 : s[i] ≠ 35) (hb : ¬ (s[i] ≠ 32 ∧ s[i] ≠ 9)) (hn : now ≠ []) (hq : wordsR s = out ++ wordsGo now (s.drop i)) : wordsR s = (out ++ [now]) ++ wordsGo [] (s.drop (i + 1)) := by
  rw [drop_at h, wordsGo, if_neg h35, if_neg hb, if_neg hn] at hq; rw [hq]; simp
theorem decV_take {s : Str} {i : Nat} (h : i < s.length) : decV (s.take (i + 1)) = 10 * decV (s.take i) + (s[i].toNat - 48) := by
  rw [List.take_add_one, List.getElem?_eq_getElem h]; exact decV_snoc _ _
theorem decV_lt : ∀ (n : Nat) (l : Str), l.length = n → (∀ b ∈ l, dgB b = true) → decV l < 10 ^ n
  | 0, l, h, _ => by rw [List.length_eq_zero_iff.1 h]; decide
  | n + 1, l, h, hd => by
    obtain ⟨c, r, rfl⟩ : ∃ c r, l = r ++ [c] := ⟨l.getLast (by intro e; rw [e] at h; cases h), l.dropLast, (List.dropLast_concat_getLast _).symm⟩
    have ih := decV_lt n r (by simpa using h) fun b hb => hd b (List.mem_append_left _ hb)
    have hc : dgB c = true := hd c (by simp)
    have hc : 48 ≤ c.toNat ∧ c.toNat ≤ 57 := by simpa [dgB] using hc
    rw [decV_snoc, Nat.pow_succ]; omega
theorem gdI {s : Str} {i : Nat} (h : i < s.length) : s.getD i 0 = s[i] := by rw [List.getD_eq_getElem?_getD, List.getElem?_eq_getElem h]; rfl
theorem bN {b : UInt8} (k : Nat) (hk : k < 256) (h : ¬ (b.toNat : Int) = (k : Int)) : b ≠ UInt8.ofNat k := fun e => h (by rw [e, UInt8.toNat_ofNat', Nat.mod_eq_of_lt hk])
theorem bE {b : UInt8} (k : Nat) (h : (b.toNat : Int) = (k : Int)) : b = UInt8.ofNat k := by
  have : b.toNat = k := by omega
  rw [← this, UInt8.ofNat_toNat]
theorem wext {s : Str} {i : Nat} (h : i < s.length) (hs : s.length < 4294967281) : (bs s).extract (Int.toNat (i : Int)) (Int.toNat (i : Int) + (Int.toNat (IntKind.wrap .i64 ((i : Int) + 1)) - Int.toNat (i : Int))) = bs [s.getD i 0] := by
  have e : Int.toNat (IntKind.wrap .i64 ((i : Int) + 1)) - Int.toNat (i : Int) = 1 := by rw [wI (by omega) (by omega)]; omega
  rw [e, Int.toNat_natCast, bs_ext, gdI h, drop_at h]; rfl
theorem wnow {s now : Str} {i : Nat} (h : i < s.length) (hs : s.length < 4294967281) : bs now ++ (bs s).extract (Int.toNat (i : Int)) (Int.toNat (i : Int) + (Int.toNat (IntKind.wrap .i64 ((i : Int) + 1)) - Int.toNat (i : Int))) = bs (now ++ [s.getD i 0]) := by rw [wext h hs, bs_app]
def WoP (s : Str) (x : Nat × Str × List Str) : Prop := x.1 ≤ s.length ∧ x.2.1.length ≤ x.1 ∧ x.2.2.length ≤ x.1 ∧ wordsR s = x.2.2 ++ wordsGo x.2.1 (s.drop x.1)
theorem wop_in {s : Str} {x : Nat × Str × List Str} (q : WoP s x) (h : x.1 < s.length) (h35 : ¬ ((s.getD x.1 0).toNat : Int) = 35) (h32 : ¬ ((s.getD x.1 0).toNat : Int) = 32) (h9 : ¬ ((s.getD x.1 0).toNat : Int) = 9) : WoP s (x.1 + 1, x.2.1 ++ [s.getD x.1 0], x.2.2) := by
  obtain ⟨q1, q2, q3, q4⟩ := q
  have e := gdI h
  rw [e] at h35 h32 h9
  refine ⟨h, by rw [List.length_append]; show _ + 1 ≤ _; omega, Nat.le_succ_of_le q3, ?_⟩
  rw [e]; exact wgo_in h (bN 35 (by decide) h35) ⟨bN 32 (by decide) h32, bN 9 (by decide) h9⟩ q4
theorem wop_w {s : Str} {x : Nat × Str × List Str} (q : WoP s x) (h : x.1 < s.length) (h35 : ¬ ((s.getD x.1 0).toNat : Int) = 35) (hb : ((s.getD x.1 0).toNat : Int) = 32 ∨ ((s.getD x.1 0).toNat : Int) = 9) (hn : x.2.1 ≠ []) : WoP s (x.1 + 1, [], x.2.2 ++ [x.2.1]) := by
  obtain ⟨q1, q2, q3, q4⟩ := q
  have e := gdI h
  rw [e] at h35 hb
  refine ⟨h, Nat.zero_le _, by rw [List.length_append]; show _ + 1 ≤ x.1 + 1; omega, ?_⟩
  exact wgo_w h (bN 35 (by decide) h35) (fun k => hb.elim (fun e => k.1 (bE 32 e)) fun e => k.2 (bE 9 e)) hn q4
theorem wop_n {s : Str} {x : Nat × Str × List Str} (q : WoP s x) (h : x.1 < s.length) (h35 : ¬ ((s.getD x.1 0).toNat : Int) = 35) (hb : ((s.getD x.1 0).toNat : Int) = 32 ∨ ((s.getD x.1 0).toNat : Int) = 9) (hn : x.2.1 = []) : WoP s (x.1 + 1, [], x.2.2) := by
  obtain ⟨q1, q2, q3, q4⟩ := q
  have e := gdI h
  rw [e] at h35 hb
  rw [hn] at q4
  exact ⟨h, Nat.zero_le _, Nat.le_succ_of_le q3, wgo_n h (bN 35 (by decide) h35) (fun k => hb.elim (fun e => k.1 (bE 32 e)) fun e => k.2 (bE 9 e)) q4⟩
theorem wop_end {s : Str} {x : Nat × Str × List Str} (q : WoP s x) (h : ¬ (x.1 : Int) < ((bs s).size : Int) ∨ ((s.getD x.1 0).toNat : Int) = 35) : wordsR s = x.2.2 ++ if x.2.1 = [] then [] else [x.2.1] := by
  obtain ⟨q1, q2, q3, q4⟩ := q
  by_cases hl : x.1 < s.length
  · refine wgo_cut hl ?_ q4
    rw [← gdI hl]
    exact bE 35 (h.elim (fun k => absurd (by rw [bs_size]; omega) k) id)
  · exact wgo_end (by omega) q4
theorem strOut1 {os : List (Option Ob)} (l : List Str) : Ent os (.isl 1 l.length fun r k => atL [AV.str (bs (l.getD (r + 0) []))] k) (.isl 1 l.length fun i _ => .str (bs (l.getD i []))) :=
  Ent.isl fun i j hi hj => by obtain rfl : j = 0 := Nat.lt_one_iff.1 hj; rfl
theorem strOut2 {os : List (Option Ob)} {l l' : List Str} {w : Str} {b : ByteArray} (hb : b = bs w) (h : l' = l ++ [w]) : Ent os (.isl 1 (l.length + 1) fun r k => mixA ((r + 0).blt l.length) (atL [AV.str (bs (l.getD (r + 0) []))] k) (atL ([[AV.str b]].getD (r + 0 - l.length) []) k)) (.isl 1 l'.length fun i _ => .str (bs (l'.getD i []))) := by
  subst hb; subst h
  refine Ent.islN (by simp) fun i j hi hj => ?_
  obtain rfl : j = 0 := Nat.lt_one_iff.1 hj
  rw [Nat.add_zero]
  by_cases h : i < l.length
  · rw [show i.blt l.length = true from Nat.blt_eq.mpr h, mixA_tt]
    have : (l ++ [w]).getD i [] = l.getD i [] := by simp [List.getD_eq_getElem?_getD, List.getElem?_append_left h]
    rw [this]; rfl
  · obtain rfl : i = l.length := by omega
    have e : l.length.blt l.length = false := by
      cases e : l.length.blt l.length with
      | false => rfl
      | true => exact absurd (Nat.blt_eq.mp e) (Nat.lt_irrefl _)
    rw [e, mixA_ff, Nat.sub_self]
    have : (l ++ [w]).getD l.length [] = w := by simp [List.getD_eq_getElem?_getD]
    rw [this]; rfl
theorem rn_f {s : Str} (h : numF1 s = false) : rnV s = 0 ∧ numOk s = false := by
  unfold rnV numOk; rw [h]; exact ⟨rfl, rfl⟩
theorem rn_no1 {s : Str} (h : (((bs s).size : Int) = 0 ∨ ((bs s).size : Int) > 13) ∨ (((s.getD 0 0).toNat : Int) = 48 ∧ ((bs s).size : Int) > 1)) : rnV s = 0 ∧ numOk s = false := by
  refine rn_f ?_
  rw [bs_size] at h
  unfold numF1
  have : (decide (s.length = 0) || decide (s.length > 13) || (s.head? == some 48 && decide (s.length > 1))) = true := by
    rcases h with (h | h) | ⟨h, k⟩
    · rw [decide_eq_true (show s.length = 0 by omega)]; simp
    · rw [decide_eq_true (show s.length > 13 by omega)]; simp
    · rw [decide_eq_true (show s.length > 1 by omega)]
      cases s with
      | nil => simp at k
      | cons b r =>
        have e : b = 48 := bE 48 h
        subst e; simp
  rw [this]; rfl
theorem rn_no2 {s : Str} {x : Nat} (hx : (x : Int) < ((bs s).size : Int)) (h : ((s.getD x 0).toNat : Int) < 48 ∨ ((s.getD x 0).toNat : Int) > 57) : rnV s = 0 ∧ numOk s = false := by
  rw [bs_size] at hx
  have hx : x < s.length := by omega
  refine rn_f ?_
  unfold numF1
  rw [gdI hx] at h
  have : s.all dgB = false := by
    refine List.all_eq_false.2 ⟨s[x], List.getElem_mem hx, ?_⟩
    simp only [dgB, decide_eq_true_eq]
    omega
  rw [this, Bool.and_false]
theorem rn_yes {s : Str} {x : Nat} (h : (¬ ((bs s).size : Int) = 0 ∧ ¬ ((bs s).size : Int) > 13) ∧ (¬ ((s.getD 0 0).toNat : Int) = 48 ∨ ¬ ((bs s).size : Int) > 1)) (hx : s.length ≤ x) (hd : ∀ b ∈ s.take x, dgB b = true) :
    rnV s = (decV (s.take x) : Int) ∧ numOk s = decide ((decV (s.take x) : Int) ≤ 1099511627776) := by
  rw [List.take_of_length_le hx] at hd ⊢
  have : numF1 s = true := by
    unfold numF1
    rw [bs_size] at h
    have : (decide (s.length = 0) || decide (s.length > 13) || (s.head? == some 48 && decide (s.length > 1))) = false := by
      rw [decide_eq_false (show ¬ s.length = 0 by omega), decide_eq_false (show ¬ s.length > 13 by omega)]
      rcases h.2 with k | k
      · cases s with
        | nil => simp at h
        | cons b r =>
          have : b ≠ 48 := bN 48 (by decide) k
          simp [this]
      · rw [decide_eq_false (show ¬ s.length > 1 by omega)]; simp
    rw [this, List.all_eq_true.2 hd]; rfl
  unfold rnV numOk
  rw [this]; exact ⟨rfl, by rw [Bool.true_and]; exact decide_eq_decide.2 (by omega)⟩
theorem w8 {B : Nat} (h : ¬ (B : Int) < 48 ∧ ¬ (B : Int) > 57) : IntKind.wrap .u8 ((B : Int) - 48) = (B : Int) - 48 := by
  unfold IntKind.wrap; simp [IntKind.signed, IntKind.bits]; omega
theorem rn_step {s : Str} {x : Nat} (hx : x < s.length) (h13 : s.length ≤ 13) (hd : ∀ b ∈ s.take x, dgB b = true) (g : ¬ ((s.getD x 0).toNat : Int) < 48 ∧ ¬ ((s.getD x 0).toNat : Int) > 57) :
    IntKind.wrap .i64 (IntKind.wrap .i64 (10 * (decV (s.take x) : Int)) + IntKind.wrap .i64 (IntKind.wrap .u8 (((s.getD x 0).toNat : Int) - 48))) = (decV (s.take (x + 1)) : Int) := by
  have k := decV_lt x (s.take x) (by rw [List.length_take]; omega) hd
  have k2 : 10 ^ x ≤ 10 ^ 13 := Nat.pow_le_pow_right (by decide) (by omega)
  have k3 : (10 : Nat) ^ 13 = 10000000000000 := by decide
  rw [decV_take hx, ← gdI hx]
  have e := w8 g
  have k4 : (decV (s.take x) : Int) ≤ 10000000000000 := by omega
  generalize decV (s.take x) = D at *
  generalize (s.getD x 0).toNat = B at *
  rw [e, wI (n := 10 * (D : Int)) (by omega) (by omega), wI (n := (B : Int) - 48) (by omega) (by omega), wI (by omega) (by omega)]
  omega
theorem rn_dig {s : Str} {x : Nat} (hx : x < s.length) (hd : ∀ b ∈ s.take x, dgB b = true) (g : ¬ ((s.getD x 0).toNat : Int) < 48 ∧ ¬ ((s.getD x 0).toNat : Int) > 57) : ∀ b ∈ s.take (x + 1), dgB b = true := fun b hb => by
  rw [List.take_add_one, List.getElem?_eq_getElem hx] at hb
  rcases List.mem_append.1 hb with hb | hb
  · exact hd b hb
  · have : b = s[x] := by simpa using hb
    rw [this, ← gdI hx]
    simp only [dgB, decide_eq_true_eq]; omega
end Go.Sp

namespace Go.Proofs.YtbmdmoknnlhdoaaDoor
open Go Go.Am Go.Sp Go.Lib Go.RowKit
set_option maxRecDepth 100000

theorem words_c (m : GP) (s : Str) (hq : s.length < 4294967281) : Pure Tryd.prog (gl0 m) 33 [.str (bs s)] (.isl 1 (wordsR s).length fun i _ => .str (bs ((wordsR s).getD i []))) := by
  have zs := bs_size s
  refine pure_sk (own := ow0) Tryd.func33 (by kernel_rfl) mixed (by kernel_rfl)
    (.loop ({ x : Nat × Str × List Str // (fun (x : Nat × Str × List Str) => WoP s x) x }) (fun (x : { x : Nat × Str × List Str // (fun (x : Nat × Str × List Str) => WoP s x) x }) => mkSt [0, 3, 4, 5] [AV.str (bs s), AV.osl (0 : Nat) (1 : Nat) (0 : Nat) (List.length (Prod.snd (Prod.snd (x.1)))), AV.str (bs (Prod.fst (Prod.snd (x.1)))), Zi (↑(Prod.fst (x.1)) : Int)] [some { es := (1 : Nat), n := List.length (Prod.snd (Prod.snd (x.1))), mu := true, f := Rep.row fun (i : Nat) => rowS (List.getD (Prod.snd (Prod.snd (x.1))) i []) }]) (fun (x : { x : Nat × Str × List Str // (fun (x : Nat × Str × List Str) => WoP s x) x }) => (fun (x : Nat × Str × List Str) => List.length s - Prod.fst x) (x.1)) (⟨((0 : Nat), [], []), ⟨Nat.zero_le (List.length s), ⟨Nat.zero_le (Prod.fst ((0 : Nat), [], [])), ⟨Nat.zero_le (Prod.fst ((0 : Nat), [], [])), rfl⟩⟩⟩⟩) ([0, 3, 4, 5]) ([288]) ([AV.str (bs s), AV.nsl, AV.str { data := #[] }, Zi 0]) ([some { es := 1, n := 0, mu := true, f := Rep.lst [] }]) (fun x0 => (.req ((decide ((↑(x0.1).1 : Int) < (↑(ByteArray.size (bs s)) : Int)) == true) = true → (0 : Int) ≤ (↑(x0.1).1 : Int) ∧ (↑(x0.1).1 : Int) < (↑(ByteArray.size (bs s)) : Int)) (.br (decide ((↑(x0.1).1 : Int) < (↑(ByteArray.size (bs s)) : Int)) && (↑(UInt8.toNat (List.getD (Array.toList (ByteArray.data (bs s))) (Int.toNat (↑(x0.1).1 : Int)) (0 : UInt8))) : Int) != (35 : Int)) (.req ((0 : Int) ≤ (↑(x0.1).1 : Int) ∧ (↑(x0.1).1 : Int) < (↑(ByteArray.size (bs s)) : Int)) (.req ((((↑(UInt8.toNat (List.getD (Array.toList (ByteArray.data (bs s))) (Int.toNat (↑(x0.1).1 : Int)) (0 : UInt8))) : Int) != (32 : Int)) == true) = true → (0 : Int) ≤ (↑(x0.1).1 : Int) ∧ (↑(x0.1).1 : Int) < (↑(ByteArray.size (bs s)) : Int)) (.br ((↑(UInt8.toNat (List.getD (Array.toList (ByteArray.data (bs s))) (Int.toNat (↑(x0.1).1 : Int)) (0 : UInt8))) : Int) != (32 : Int) && (↑(UInt8.toNat (List.getD (Array.toList (ByteArray.data (bs s))) (Int.toNat (↑(x0.1).1 : Int)) (0 : UInt8))) : Int) != (9 : Int)) (.req ((0 : Int) ≤ (↑(x0.1).1 : Int) ∧ (↑(x0.1).1 : Int) ≤ IntKind.wrap IntKind.i64 ((↑(x0.1).1 : Int) + (1 : Int)) ∧ IntKind.wrap IntKind.i64 ((↑(x0.1).1 : Int) + (1 : Int)) ≤ (↑(ByteArray.size (bs s)) : Int)) (.req (ByteArray.size (bs (Prod.snd (x0.1)).1) + ByteArray.size (ByteArray.extract (bs s) (Int.toNat (↑(x0.1).1 : Int)) (Int.toNat (↑(x0.1).1 : Int) + (Int.toNat (IntKind.wrap IntKind.i64 ((↑(x0.1).1 : Int) + (1 : Int))) - Int.toNat (↑(x0.1).1 : Int)))) ≤ 9223372036854775807) (.again (Again (0) (fun (x : { x : Nat × Str × List Str // (fun (x : Nat × Str × List Str) => WoP s x) x }) => mkSt [0, 3, 4, 5] [AV.str (bs s), AV.osl (0 : Nat) (1 : Nat) (0 : Nat) (List.length (Prod.snd (Prod.snd (x.1)))), AV.str (bs (Prod.fst (Prod.snd (x.1)))), Zi (↑(Prod.fst (x.1)) : Int)] [some { es := (1 : Nat), n := List.length (Prod.snd (Prod.snd (x.1))), mu := true, f := Rep.row fun (i : Nat) => rowS (List.getD (Prod.snd (Prod.snd (x.1))) i []) }]) (fun (x : { x : Nat × Str × List Str // (fun (x : Nat × Str × List Str) => WoP s x) x }) => (fun (x : Nat × Str × List Str) => List.length s - Prod.fst x) (x.1)) x0) ([0, 3, 4, 5]) ([0]) ([AV.str (bs s), AV.osl (0) (1) (0) (List.length (Prod.snd (Prod.snd (x0.1)))), AV.str (bs (Prod.snd (x0.1)).1 ++ ByteArray.extract (bs s) (Int.toNat (↑(x0.1).1 : Int)) (Int.toNat (↑(x0.1).1 : Int) + (Int.toNat (IntKind.wrap IntKind.i64 ((↑(x0.1).1 : Int) + (1 : Int))) - Int.toNat (↑(x0.1).1 : Int)))), Zi (IntKind.wrap IntKind.i64 ((↑(x0.1).1 : Int) + (1 : Int)))]) ([some { es := 1, n := List.length (Prod.snd (Prod.snd (x0.1))), mu := true, f := Rep.row fun (i : Nat) => [AV.str (bs (List.getD (Prod.snd (Prod.snd (x0.1))) i []))] }])))) (.br (!ByteArray.toList (bs (Prod.fst (Prod.snd (x0.1)))) == ByteArray.toList { data := #[] }) (.req ((List.length (Prod.snd (Prod.snd (x0.1))) + 1) * 16 ≤ 140737488355328) (.again (Again (0) (fun (x : { x : Nat × Str × List Str // (fun (x : Nat × Str × List Str) => WoP s x) x }) => mkSt [0, 3, 4, 5] [AV.str (bs s), AV.osl (0 : Nat) (1 : Nat) (0 : Nat) (List.length (Prod.snd (Prod.snd (x.1)))), AV.str (bs (Prod.fst (Prod.snd (x.1)))), Zi (↑(Prod.fst (x.1)) : Int)] [some { es := (1 : Nat), n := List.length (Prod.snd (Prod.snd (x.1))), mu := true, f := Rep.row fun (i : Nat) => rowS (List.getD (Prod.snd (Prod.snd (x.1))) i []) }]) (fun (x : { x : Nat × Str × List Str // (fun (x : Nat × Str × List Str) => WoP s x) x }) => (fun (x : Nat × Str × List Str) => List.length s - Prod.fst x) (x.1)) x0) ([0, 3, 4, 5]) ([201]) ([AV.str (bs s), AV.osl (0) (1) (0) (List.length (Prod.snd (Prod.snd (x0.1))) + 1), AV.str { data := #[] }, Zi (IntKind.wrap IntKind.i64 ((↑(x0.1).1 : Int) + (1 : Int)))]) ([some { es := 1, n := List.length (Prod.snd (Prod.snd (x0.1))) + 1, mu := true, f := Rep.cat (List.length (Prod.snd (Prod.snd (x0.1)))) (Rep.row fun (i : Nat) => [AV.str (bs (List.getD (Prod.snd (Prod.snd (x0.1))) i []))]) (Rep.lst [[AV.str (bs (Prod.snd (x0.1)).1)]]) }]))) (.again (Again (0) (fun (x : { x : Nat × Str × List Str // (fun (x : Nat × Str × List Str) => WoP s x) x }) => mkSt [0, 3, 4, 5] [AV.str (bs s), AV.osl (0 : Nat) (1 : Nat) (0 : Nat) (List.length (Prod.snd (Prod.snd (x.1)))), AV.str (bs (Prod.fst (Prod.snd (x.1)))), Zi (↑(Prod.fst (x.1)) : Int)] [some { es := (1 : Nat), n := List.length (Prod.snd (Prod.snd (x.1))), mu := true, f := Rep.row fun (i : Nat) => rowS (List.getD (Prod.snd (Prod.snd (x.1))) i []) }]) (fun (x : { x : Nat × Str × List Str // (fun (x : Nat × Str × List Str) => WoP s x) x }) => (fun (x : Nat × Str × List Str) => List.length s - Prod.fst x) (x.1)) x0) ([0, 3, 4, 5]) ([0]) ([AV.str (bs s), AV.osl (0) (1) (0) (List.length (Prod.snd (Prod.snd (x0.1)))), AV.str { data := #[] }, Zi (IntKind.wrap IntKind.i64 ((↑(x0.1).1 : Int) + (1 : Int)))]) ([some { es := 1, n := List.length (Prod.snd (Prod.snd (x0.1))), mu := true, f := Rep.row fun (i : Nat) => [AV.str (bs (List.getD (Prod.snd (Prod.snd (x0.1))) i []))] }])))))) (.br (!ByteArray.toList (bs (Prod.fst (Prod.snd (x0.1)))) == ByteArray.toList { data := #[] }) (.req ((List.length (Prod.snd (Prod.snd (x0.1))) + 1) * 16 ≤ 140737488355328) (.out (AV.isl (1) (List.length (Prod.snd (Prod.snd (x0.1))) + 1) fun (r k : Nat) => mixA (Nat.blt (r + 0) (List.length (Prod.snd (Prod.snd (x0.1))))) (atL [AV.str (bs (List.getD (Prod.snd (Prod.snd (x0.1))) (r + 0) []))] k) (atL (List.getD [[AV.str (bs (Prod.snd (x0.1)).1)]] (r + 0 - List.length (Prod.snd (Prod.snd (x0.1)))) []) k)) [] (AV.isl (1 : Nat) (List.length (wordsR s)) fun (i x : Nat) => AV.str (bs (List.getD (wordsR s) i []))) [])) (.out (AV.isl (1) (List.length (Prod.snd (Prod.snd (x0.1)))) fun (r k : Nat) => atL [AV.str (bs (List.getD (Prod.snd (Prod.snd (x0.1))) (r + 0) []))] k) [] (AV.isl (1 : Nat) (List.length (wordsR s)) fun (i x : Nat) => AV.str (bs (List.getD (wordsR s) i []))) []))))))
    (by kernel_rfl) ?_
  refine k_loop (fun _ hs => hs.le (by repeat' (first | exact trivial | (first | exact Ent.refl _ | exact inc_ent (by omega) | exact Ent.nil rfl | exact Ent.of_eq (congrArg (AV.osl _ _ _) (by first | omega | (dsimp only; omega))) | exact Ent.of_eq (congrArg (AV.int _) (by first | omega | (dsimp only; omega)))) | refine And.intro ?_ ?_)) (by repeat' (first | exact trivial | (first | exact ObEnt.refl _ | exact ObEnt.junk | exact ObEnt.zero | exact ObEnt.push rfl rfl | exact ObEnt.pushRow rfl | exact ObEnt.len (by omega) | exact ObEnt.row (by repeat' (first | exact trivial | (first | exact Ent.refl _ | exact inc_ent (by omega) | exact Ent.nil rfl | exact Ent.of_eq (congrArg (AV.osl _ _ _) (by first | omega | (dsimp only; omega))) | exact Ent.of_eq (congrArg (AV.int _) (by first | omega | (dsimp only; omega)))) | refine And.intro ?_ ?_))) | refine And.intro ?_ ?_))) (fun x0 => ?_)
  try (have q0 := x0.2; dsimp only at q0)
  have q := x0.2; obtain ⟨q1, q2, q3, _⟩ := q; have e1 := wI (n := (x0.1.1 : Int) + 1) (by omega) (by omega)
  refine k_req (fun hr => by have hr := (cnd_eqt_t cnd_dec_t) hr; first | omega | (simp only [Int.toNat_natCast] at *; omega)) ?_
  refine k_br (fun h2 => ?_) (fun h2 => ?_)
  · have g2 := (cnd_and_t cnd_dec_t cnd_bne_t) h2
    try simp only [Int.toNat_natCast] at g2
    refine k_req (by first | omega | (simp only [Int.toNat_natCast]; omega)) ?_
    refine k_req (fun hr => by have hr := (cnd_eqt_t cnd_bne_t) hr; first | omega | (simp only [Int.toNat_natCast] at *; omega)) ?_
    refine k_br (fun h5 => ?_) (fun h5 => ?_)
    · have g5 := (cnd_and_t cnd_bne_t cnd_bne_t) h5
      try simp only [Int.toNat_natCast] at g5
      refine k_req (by first | omega | (simp only [Int.toNat_natCast]; omega)) ?_
      refine k_req (by rw [wext (by omega) hq, bs_size, bs_size, List.length_singleton]; omega) ?_
      exact k_again (⟨_, wop_in x0.2 (by omega) g2.2 g5.1 g5.2⟩) (fun _ hs => hs.le (by repeat' (first | exact trivial | exact Ent.refl _ | exact Ent.of_eq (congrArg AV.str (wnow (by omega) hq)) | exact Ent.of_eq (congrArg (AV.int _) (by first | omega | (dsimp only; omega))) | refine And.intro ?_ ?_)) (by repeat' (first | exact trivial | (first | exact ObEnt.refl _ | exact ObEnt.junk | exact ObEnt.zero | exact ObEnt.push rfl rfl | exact ObEnt.pushRow rfl | exact ObEnt.len (by omega) | exact ObEnt.row (by repeat' (first | exact trivial | (first | exact Ent.refl _ | exact inc_ent (by omega) | exact Ent.nil rfl | exact Ent.of_eq (congrArg (AV.osl _ _ _) (by first | omega | (dsimp only; omega))) | exact Ent.of_eq (congrArg (AV.int _) (by first | omega | (dsimp only; omega)))) | refine And.intro ?_ ?_))) | refine And.intro ?_ ?_))) (by first | omega | (dsimp only; omega) | (simp; omega))
    · have g5 := (cnd_and_f cnd_bne_f cnd_bne_f) h5
      try simp only [Int.toNat_natCast] at g5
      refine k_br (fun h9 => ?_) (fun h9 => ?_)
      · have g9 := (cnd_not_t cnd_id_f) h9
        refine k_req (by first | omega | (simp only [Int.toNat_natCast]; omega)) ?_
        exact k_again (⟨_, wop_w x0.2 (by omega) g2.2 g5 (neF g9)⟩) (fun _ hs => hs.le (by repeat' (first | exact trivial | exact Ent.refl _ | exact Ent.of_eq (congrArg (AV.osl _ _ _) (by simp)) | exact Ent.of_eq (congrArg (AV.int _) (by first | omega | (dsimp only; omega))) | refine And.intro ?_ ?_)) (⟨.pushA rowS [] rfl rfl, trivial⟩)) (by first | omega | (dsimp only; omega) | (simp; omega))
      · have g9 := (cnd_not_f cnd_id_t) h9
        exact k_again (⟨_, wop_n x0.2 (by omega) g2.2 g5 (neT g9)⟩) (fun _ hs => hs.le (by repeat' (first | exact trivial | (first | exact Ent.refl _ | exact inc_ent (by omega) | exact Ent.nil rfl | exact Ent.of_eq (congrArg (AV.osl _ _ _) (by first | omega | (dsimp only; omega))) | exact Ent.of_eq (congrArg (AV.int _) (by first | omega | (dsimp only; omega)))) | refine And.intro ?_ ?_)) (by repeat' (first | exact trivial | (first | exact ObEnt.refl _ | exact ObEnt.junk | exact ObEnt.zero | exact ObEnt.push rfl rfl | exact ObEnt.pushRow rfl | exact ObEnt.len (by omega) | exact ObEnt.row (by repeat' (first | exact trivial | (first | exact Ent.refl _ | exact inc_ent (by omega) | exact Ent.nil rfl | exact Ent.of_eq (congrArg (AV.osl _ _ _) (by first | omega | (dsimp only; omega))) | exact Ent.of_eq (congrArg (AV.int _) (by first | omega | (dsimp only; omega)))) | refine And.intro ?_ ?_))) | refine And.intro ?_ ?_))) (by first | omega | (dsimp only; omega) | (simp; omega))
  · have g2 := (cnd_and_f cnd_dec_f cnd_bne_f) h2
    try simp only [Int.toNat_natCast] at g2
    refine k_br (fun h13 => ?_) (fun h13 => ?_)
    · have g13 := (cnd_not_t cnd_id_f) h13
      refine k_req (by first | omega | (simp only [Int.toNat_natCast]; omega)) ?_
      exact k_out ((by rw [wop_end x0.2 g2, if_neg (neF g13)]; exact strOut2 rfl rfl))
    · have g13 := (cnd_not_f cnd_id_t) h13
      exact k_out ((by rw [wop_end x0.2 g2, if_pos (neT g13), List.append_nil]; exact strOut1 _))

theorem rnum_c (m : GP) (s : Str) (hq : s.length < 4294967281) : Pure Tryd.prog (gl0 m) 50 [.str (bs s)] (.tup [.int .i64 (rnV s), .bool (numOk s)]) := by
  have zs := bs_size s
  refine pure_sk (own := ow0) Tryd.func50 (by kernel_rfl) mixed (by kernel_rfl)
    (.req ((((↑(ByteArray.size (bs s)) : Int) == (0 : Int) || decide ((↑(ByteArray.size (bs s)) : Int) > (13 : Int))) == false) = true → (0 : Int) ≤ (0 : Int) ∧ (0 : Int) < (↑(ByteArray.size (bs s)) : Int)) (.br ((↑(ByteArray.size (bs s)) : Int) == (0 : Int) || decide ((↑(ByteArray.size (bs s)) : Int) > (13 : Int)) || (↑(UInt8.toNat (List.getD (Array.toList (ByteArray.data (bs s))) (0) (0 : UInt8))) : Int) == (48 : Int) && decide ((↑(ByteArray.size (bs s)) : Int) > (1 : Int))) (.out (AV.tup [Zi 0, AV.bool false]) [] (AV.tup [Zi (rnV s), AV.bool (numOk s)]) []) (.loop ({ x : Nat // x ≤ List.length s ∧ (fun (x : Nat) => ∀ (b : UInt8), b ∈ List.take x s → dgB b = true) x }) (fun (x : { x : Nat // x ≤ List.length s ∧ (fun (x : Nat) => ∀ (b : UInt8), b ∈ List.take x s → dgB b = true) x }) => mkSt [0, 4, 5] [AV.str (bs s), Zi (↑(decV (List.take (x.1) s)) : Int), Zi (↑(x.1) : Int)] []) (fun (x : { x : Nat // x ≤ List.length s ∧ (fun (x : Nat) => ∀ (b : UInt8), b ∈ List.take x s → dgB b = true) x }) => List.length s - x.1) (⟨(0 : Nat), ⟨Nat.zero_le (List.length s), fun (b : UInt8) (hb : b ∈ List.take (0 : Nat) s) => List.Mem.casesOn (motive := fun (a : List UInt8) (t : List.Mem b a) => List.take (0 : Nat) s = a → hb ≍ t → dgB b = true) hb (fun («as» : List UInt8) (h : List.take (0 : Nat) s = b :: «as») => False.elim (noConfusion_of_Nat List.ctorIdx h)) (fun (b_1 : UInt8) {«as» : List UInt8} (a : List.Mem b «as») (h : List.take (0 : Nat) s = b_1 :: «as») => False.elim (noConfusion_of_Nat List.ctorIdx h)) (Eq.refl (List.take (0 : Nat) s)) (HEq.refl hb)⟩⟩) ([0, 4, 5]) ([]) ([AV.str (bs s), Zi 0, Zi 0]) ([]) (fun x3 => (.br (decide ((↑x3.1 : Int) < (↑(ByteArray.size (bs s)) : Int))) (.req ((0 : Int) ≤ (↑x3.1 : Int) ∧ (↑x3.1 : Int) < (↑(ByteArray.size (bs s)) : Int)) (.req ((decide ((↑(UInt8.toNat (List.getD (Array.toList (ByteArray.data (bs s))) (Int.toNat (↑x3.1 : Int)) (0 : UInt8))) : Int) < (48 : Int)) == false) = true → (0 : Int) ≤ (↑x3.1 : Int) ∧ (↑x3.1 : Int) < (↑(ByteArray.size (bs s)) : Int)) (.br (decide ((↑(UInt8.toNat (List.getD (Array.toList (ByteArray.data (bs s))) (Int.toNat (↑x3.1 : Int)) (0 : UInt8))) : Int) < (48 : Int)) || decide ((↑(UInt8.toNat (List.getD (Array.toList (ByteArray.data (bs s))) (Int.toNat (↑x3.1 : Int)) (0 : UInt8))) : Int) > (57 : Int))) (.out (AV.tup [Zi 0, AV.bool false]) [] (AV.tup [Zi (rnV s), AV.bool (numOk s)]) []) (.req ((0 : Int) ≤ (↑x3.1 : Int) ∧ (↑x3.1 : Int) < (↑(ByteArray.size (bs s)) : Int)) (.again (Again (0) (fun (x : { x : Nat // x ≤ List.length s ∧ (fun (x : Nat) => ∀ (b : UInt8), b ∈ List.take x s → dgB b = true) x }) => mkSt [0, 4, 5] [AV.str (bs s), Zi (↑(decV (List.take (x.1) s)) : Int), Zi (↑(x.1) : Int)] []) (fun (x : { x : Nat // x ≤ List.length s ∧ (fun (x : Nat) => ∀ (b : UInt8), b ∈ List.take x s → dgB b = true) x }) => List.length s - x.1) x3) ([0, 4, 5]) ([]) ([AV.str (bs s), Zi (IntKind.wrap IntKind.i64 (IntKind.wrap IntKind.i64 ((10 : Int) * (↑(decV (List.take x3.1 s)) : Int)) + IntKind.wrap IntKind.i64 (IntKind.wrap IntKind.u8 ((↑(UInt8.toNat (List.getD (Array.toList (ByteArray.data (bs s))) (Int.toNat (↑x3.1 : Int)) (0 : UInt8))) : Int) - (48 : Int))))), Zi (IntKind.wrap IntKind.i64 ((↑x3.1 : Int) + (1 : Int)))]) ([])))))) (.out (AV.tup [Zi (↑(decV (List.take x3.1 s)) : Int), AV.bool (decide ((↑(decV (List.take x3.1 s)) : Int) ≤ (1099511627776 : Int)))]) [] (AV.tup [Zi (rnV s), AV.bool (numOk s)]) []))))))
    (by kernel_rfl) ?_
  refine k_req (fun hr => by have hr := (cnd_eqf_t (cnd_or_f cnd_beq_f cnd_dec_f)) hr; first | omega | (simp only [Int.toNat_natCast] at *; omega)) ?_
  refine k_br (fun h1 => ?_) (fun h1 => ?_)
  · have g1 := (cnd_or_t (cnd_or_t cnd_beq_t cnd_dec_t) (cnd_and_t cnd_beq_t cnd_dec_t)) h1
    exact k_out ((by rw [(rn_no1 g1).1, (rn_no1 g1).2]; exact Ent.refl _))
  · have g1 := (cnd_or_f (cnd_or_f cnd_beq_f cnd_dec_f) (cnd_and_f cnd_beq_f cnd_dec_f)) h1
    refine k_loop (fun _ hs => hs.le (by repeat' (first | exact trivial | exact Ent.refl _ | exact Ent.of_eq (congrArg (AV.int _) (by first | omega | (dsimp only; omega) | exact rn_step (by omega) (by omega) x3.2.2 g7)) | refine And.intro ?_ ?_)) (trivial)) (fun x3 => ?_)
    try (have q3 := x3.2; dsimp only at q3)
    have e1 := wI (n := (x3.1 : Int) + 1) (by omega) (by omega)
    refine k_br (fun h4 => ?_) (fun h4 => ?_)
    · have g4 := cnd_dec_t h4
      refine k_req (by first | omega | (simp only [Int.toNat_natCast]; omega)) ?_
      refine k_req (fun hr => by have hr := (cnd_eqf_t cnd_dec_f) hr; first | omega | (simp only [Int.toNat_natCast] at *; omega)) ?_
      refine k_br (fun h7 => ?_) (fun h7 => ?_)
      · have g7 := (cnd_or_t cnd_dec_t cnd_dec_t) h7
        try simp only [Int.toNat_natCast] at g7
        exact k_out ((by rw [(rn_no2 g4 g7).1, (rn_no2 g4 g7).2]; exact Ent.refl _))
      · have g7 := (cnd_or_f cnd_dec_f cnd_dec_f) h7
        try simp only [Int.toNat_natCast] at g7
        refine k_req (by first | omega | (simp only [Int.toNat_natCast]; omega)) ?_
        exact k_again (⟨x3.1 + 1, by omega, rn_dig (by omega) x3.2.2 g7⟩) (fun _ hs => hs.le (by repeat' (first | exact trivial | exact Ent.refl _ | exact Ent.of_eq (congrArg (AV.int _) (by first | omega | (dsimp only; omega) | exact rn_step (by omega) (by omega) x3.2.2 g7)) | refine And.intro ?_ ?_)) (trivial)) (by first | omega | (dsimp only; omega) | (simp; omega))
    · have g4 := cnd_dec_f h4
      exact k_out ((by rw [(rn_yes g1 (x := x3.1) (by omega) x3.2.2).1, (rn_yes g1 (x := x3.1) (by omega) x3.2.2).2]; exact Ent.refl _))

theorem numsE {os : List (Option Ob)} {a : Cmd} {l : List Int} (h : numsK a = l) : Ent os (.isl 1 l.length fun r k => atL ((l.map fun n => [Zi n]).getD (r + 0) []) k) (.isl 1 (numsK a).length fun i _ => .int .i64 ((numsK a).getD i 0)) := by
  subst h
  refine Ent.isl fun i j hi hj => ?_
  obtain rfl : j = 0 := Nat.lt_one_iff.1 hj
  rw [Nat.add_zero, List.getD_eq_getElem?_getD, List.getElem?_map, List.getD_eq_getElem?_getD, List.getElem?_eq_getElem hi]; rfl
theorem numsO {os : List (Option Ob)} {a : Cmd} (h : numsK a = []) : Ent os .nsl (.isl 1 (numsK a).length fun i _ => .int .i64 ((numsK a).getD i 0)) := by
  rw [h]; exact Ent.nsl
theorem numbers_c (m : GP) (a : Cmd) : Pure Tryd.prog (gl0 m) 37 [.agg a.cells] (.isl 1 (numsK a).length fun i _ => .int .i64 ((numsK a).getD i 0)) := by
  refine pure_sk (own := ow0) Tryd.func37 (by kernel_rfl) mixed (by kernel_rfl)
    (.br (a.1 == (1 : Int)) (.out (AV.isl (1) (2) fun (r k : Nat) => atL (List.getD [[Zi a.2], [Zi a.4]] (r + 0) []) k) [] (AV.isl (1 : Nat) (List.length (numsK a)) fun (i x : Nat) => Zi (List.getD (numsK a) i (0 : Int))) []) (.br (a.1 == (2 : Int)) (.br (a.1 == (2 : Int)) (.out (AV.isl (1) (3) fun (r k : Nat) => atL (List.getD [[Zi a.2], [Zi a.3], [Zi a.4]] (r + 0) []) k) [] (AV.isl (1 : Nat) (List.length (numsK a)) fun (i x : Nat) => Zi (List.getD (numsK a) i (0 : Int))) []) (.br (a.1 == (4 : Int)) (.br (a.1 == (4 : Int)) (.out (AV.isl (1) (1) fun (r k : Nat) => atL (List.getD [[Zi a.2]] (r + 0) []) k) [] (AV.isl (1 : Nat) (List.length (numsK a)) fun (i x : Nat) => Zi (List.getD (numsK a) i (0 : Int))) []) (.br (a.1 == (8 : Int)) (.out (AV.isl (1) (1) fun (r k : Nat) => atL (List.getD [[Zi a.4]] (r + 0) []) k) [] (AV.isl (1 : Nat) (List.length (numsK a)) fun (i x : Nat) => Zi (List.getD (numsK a) i (0 : Int))) []) (.out (AV.nsl) [] (AV.isl (1 : Nat) (List.length (numsK a)) fun (i x : Nat) => Zi (List.getD (numsK a) i (0 : Int))) []))) (.br (a.1 == (6 : Int)) (.out (AV.isl (1) (1) fun (r k : Nat) => atL (List.getD [[Zi a.2]] (r + 0) []) k) [] (AV.isl (1 : Nat) (List.length (numsK a)) fun (i x : Nat) => Zi (List.getD (numsK a) i (0 : Int))) []) (.br (a.1 == (8 : Int)) (.out (AV.isl (1) (1) fun (r k : Nat) => atL (List.getD [[Zi a.4]] (r + 0) []) k) [] (AV.isl (1 : Nat) (List.length (numsK a)) fun (i x : Nat) => Zi (List.getD (numsK a) i (0 : Int))) []) (.out (AV.nsl) [] (AV.isl (1 : Nat) (List.length (numsK a)) fun (i x : Nat) => Zi (List.getD (numsK a) i (0 : Int))) []))))) (.br (a.1 == (3 : Int)) (.br (a.1 == (3 : Int)) (.out (AV.isl (1) (3) fun (r k : Nat) => atL (List.getD [[Zi a.2], [Zi a.3], [Zi a.4]] (r + 0) []) k) [] (AV.isl (1 : Nat) (List.length (numsK a)) fun (i x : Nat) => Zi (List.getD (numsK a) i (0 : Int))) []) (.br (a.1 == (4 : Int)) (.br (a.1 == (4 : Int)) (.out (AV.isl (1) (1) fun (r k : Nat) => atL (List.getD [[Zi a.2]] (r + 0) []) k) [] (AV.isl (1 : Nat) (List.length (numsK a)) fun (i x : Nat) => Zi (List.getD (numsK a) i (0 : Int))) []) (.br (a.1 == (8 : Int)) (.out (AV.isl (1) (1) fun (r k : Nat) => atL (List.getD [[Zi a.4]] (r + 0) []) k) [] (AV.isl (1 : Nat) (List.length (numsK a)) fun (i x : Nat) => Zi (List.getD (numsK a) i (0 : Int))) []) (.out (AV.nsl) [] (AV.isl (1 : Nat) (List.length (numsK a)) fun (i x : Nat) => Zi (List.getD (numsK a) i (0 : Int))) []))) (.br (a.1 == (6 : Int)) (.out (AV.isl (1) (1) fun (r k : Nat) => atL (List.getD [[Zi a.2]] (r + 0) []) k) [] (AV.isl (1 : Nat) (List.length (numsK a)) fun (i x : Nat) => Zi (List.getD (numsK a) i (0 : Int))) []) (.br (a.1 == (8 : Int)) (.out (AV.isl (1) (1) fun (r k : Nat) => atL (List.getD [[Zi a.4]] (r + 0) []) k) [] (AV.isl (1 : Nat) (List.length (numsK a)) fun (i x : Nat) => Zi (List.getD (numsK a) i (0 : Int))) []) (.out (AV.nsl) [] (AV.isl (1 : Nat) (List.length (numsK a)) fun (i x : Nat) => Zi (List.getD (numsK a) i (0 : Int))) []))))) (.br (a.1 == (5 : Int)) (.out (AV.isl (1) (3) fun (r k : Nat) => atL (List.getD [[Zi a.2], [Zi a.3], [Zi a.4]] (r + 0) []) k) [] (AV.isl (1 : Nat) (List.length (numsK a)) fun (i x : Nat) => Zi (List.getD (numsK a) i (0 : Int))) []) (.br (a.1 == (4 : Int)) (.br (a.1 == (4 : Int)) (.out (AV.isl (1) (1) fun (r k : Nat) => atL (List.getD [[Zi a.2]] (r + 0) []) k) [] (AV.isl (1 : Nat) (List.length (numsK a)) fun (i x : Nat) => Zi (List.getD (numsK a) i (0 : Int))) []) (.br (a.1 == (8 : Int)) (.out (AV.isl (1) (1) fun (r k : Nat) => atL (List.getD [[Zi a.4]] (r + 0) []) k) [] (AV.isl (1 : Nat) (List.length (numsK a)) fun (i x : Nat) => Zi (List.getD (numsK a) i (0 : Int))) []) (.out (AV.nsl) [] (AV.isl (1 : Nat) (List.length (numsK a)) fun (i x : Nat) => Zi (List.getD (numsK a) i (0 : Int))) []))) (.br (a.1 == (6 : Int)) (.out (AV.isl (1) (1) fun (r k : Nat) => atL (List.getD [[Zi a.2]] (r + 0) []) k) [] (AV.isl (1 : Nat) (List.length (numsK a)) fun (i x : Nat) => Zi (List.getD (numsK a) i (0 : Int))) []) (.br (a.1 == (8 : Int)) (.out (AV.isl (1) (1) fun (r k : Nat) => atL (List.getD [[Zi a.4]] (r + 0) []) k) [] (AV.isl (1 : Nat) (List.length (numsK a)) fun (i x : Nat) => Zi (List.getD (numsK a) i (0 : Int))) []) (.out (AV.nsl) [] (AV.isl (1 : Nat) (List.length (numsK a)) fun (i x : Nat) => Zi (List.getD (numsK a) i (0 : Int))) []))))))))
    (by kernel_rfl) ?_
  refine k_br (fun h0 => ?_) (fun h0 => ?_)
  · have g0 := cnd_beq_t h0
    exact k_out ((by first | (exfalso; omega) | exact numsO (by simp [numsK, *]) | exact numsE (l := [a.who, a.amount]) (by simp [numsK, *]) | exact numsE (l := [a.who, a.whom, a.amount]) (by simp [numsK, *]) | exact numsE (l := [a.who]) (by simp [numsK, *]) | exact numsE (l := [a.amount]) (by simp [numsK, *])))
  · have g0 := cnd_beq_f h0
    refine k_br (fun h2 => ?_) (fun h2 => ?_)
    · have g2 := cnd_beq_t h2
      refine k_br (fun h3 => ?_) (fun h3 => ?_)
      · have g3 := cnd_beq_t h3
        exact k_out ((by first | (exfalso; omega) | exact numsO (by simp [numsK, *]) | exact numsE (l := [a.who, a.amount]) (by simp [numsK, *]) | exact numsE (l := [a.who, a.whom, a.amount]) (by simp [numsK, *]) | exact numsE (l := [a.who]) (by simp [numsK, *]) | exact numsE (l := [a.amount]) (by simp [numsK, *])))
      · have g3 := cnd_beq_f h3
        refine k_br (fun h5 => ?_) (fun h5 => ?_)
        · have g5 := cnd_beq_t h5
          refine k_br (fun h6 => ?_) (fun h6 => ?_)
          · have g6 := cnd_beq_t h6
            exact k_out ((by first | (exfalso; omega) | exact numsO (by simp [numsK, *]) | exact numsE (l := [a.who, a.amount]) (by simp [numsK, *]) | exact numsE (l := [a.who, a.whom, a.amount]) (by simp [numsK, *]) | exact numsE (l := [a.who]) (by simp [numsK, *]) | exact numsE (l := [a.amount]) (by simp [numsK, *])))
          · have g6 := cnd_beq_f h6
            refine k_br (fun h8 => ?_) (fun h8 => ?_)
            · have g8 := cnd_beq_t h8
              exact k_out ((by first | (exfalso; omega) | exact numsO (by simp [numsK, *]) | exact numsE (l := [a.who, a.amount]) (by simp [numsK, *]) | exact numsE (l := [a.who, a.whom, a.amount]) (by simp [numsK, *]) | exact numsE (l := [a.who]) (by simp [numsK, *]) | exact numsE (l := [a.amount]) (by simp [numsK, *])))
            · have g8 := cnd_beq_f h8
              exact k_out ((by first | (exfalso; omega) | exact numsO (by simp [numsK, *]) | exact numsE (l := [a.who, a.amount]) (by simp [numsK, *]) | exact numsE (l := [a.who, a.whom, a.amount]) (by simp [numsK, *]) | exact numsE (l := [a.who]) (by simp [numsK, *]) | exact numsE (l := [a.amount]) (by simp [numsK, *])))
        · have g5 := cnd_beq_f h5
          refine k_br (fun h11 => ?_) (fun h11 => ?_)
          · have g11 := cnd_beq_t h11
            exact k_out ((by first | (exfalso; omega) | exact numsO (by simp [numsK, *]) | exact numsE (l := [a.who, a.amount]) (by simp [numsK, *]) | exact numsE (l := [a.who, a.whom, a.amount]) (by simp [numsK, *]) | exact numsE (l := [a.who]) (by simp [numsK, *]) | exact numsE (l := [a.amount]) (by simp [numsK, *])))
          · have g11 := cnd_beq_f h11
            refine k_br (fun h13 => ?_) (fun h13 => ?_)
            · have g13 := cnd_beq_t h13
              exact k_out ((by first | (exfalso; omega) | exact numsO (by simp [numsK, *]) | exact numsE (l := [a.who, a.amount]) (by simp [numsK, *]) | exact numsE (l := [a.who, a.whom, a.amount]) (by simp [numsK, *]) | exact numsE (l := [a.who]) (by simp [numsK, *]) | exact numsE (l := [a.amount]) (by simp [numsK, *])))
            · have g13 := cnd_beq_f h13
              exact k_out ((by first | (exfalso; omega) | exact numsO (by simp [numsK, *]) | exact numsE (l := [a.who, a.amount]) (by simp [numsK, *]) | exact numsE (l := [a.who, a.whom, a.amount]) (by simp [numsK, *]) | exact numsE (l := [a.who]) (by simp [numsK, *]) | exact numsE (l := [a.amount]) (by simp [numsK, *])))
    · have g2 := cnd_beq_f h2
      refine k_br (fun h16 => ?_) (fun h16 => ?_)
      · have g16 := cnd_beq_t h16
        refine k_br (fun h17 => ?_) (fun h17 => ?_)
        · have g17 := cnd_beq_t h17
          exact k_out ((by first | (exfalso; omega) | exact numsO (by simp [numsK, *]) | exact numsE (l := [a.who, a.amount]) (by simp [numsK, *]) | exact numsE (l := [a.who, a.whom, a.amount]) (by simp [numsK, *]) | exact numsE (l := [a.who]) (by simp [numsK, *]) | exact numsE (l := [a.amount]) (by simp [numsK, *])))
        · have g17 := cnd_beq_f h17
          refine k_br (fun h19 => ?_) (fun h19 => ?_)
          · have g19 := cnd_beq_t h19
            refine k_br (fun h20 => ?_) (fun h20 => ?_)
            · have g20 := cnd_beq_t h20
              exact k_out ((by first | (exfalso; omega) | exact numsO (by simp [numsK, *]) | exact numsE (l := [a.who, a.amount]) (by simp [numsK, *]) | exact numsE (l := [a.who, a.whom, a.amount]) (by simp [numsK, *]) | exact numsE (l := [a.who]) (by simp [numsK, *]) | exact numsE (l := [a.amount]) (by simp [numsK, *])))
            · have g20 := cnd_beq_f h20
              refine k_br (fun h22 => ?_) (fun h22 => ?_)
              · have g22 := cnd_beq_t h22
                exact k_out ((by first | (exfalso; omega) | exact numsO (by simp [numsK, *]) | exact numsE (l := [a.who, a.amount]) (by simp [numsK, *]) | exact numsE (l := [a.who, a.whom, a.amount]) (by simp [numsK, *]) | exact numsE (l := [a.who]) (by simp [numsK, *]) | exact numsE (l := [a.amount]) (by simp [numsK, *])))
              · have g22 := cnd_beq_f h22
                exact k_out ((by first | (exfalso; omega) | exact numsO (by simp [numsK, *]) | exact numsE (l := [a.who, a.amount]) (by simp [numsK, *]) | exact numsE (l := [a.who, a.whom, a.amount]) (by simp [numsK, *]) | exact numsE (l := [a.who]) (by simp [numsK, *]) | exact numsE (l := [a.amount]) (by simp [numsK, *])))
          · have g19 := cnd_beq_f h19
            refine k_br (fun h25 => ?_) (fun h25 => ?_)
            · have g25 := cnd_beq_t h25
              exact k_out ((by first | (exfalso; omega) | exact numsO (by simp [numsK, *]) | exact numsE (l := [a.who, a.amount]) (by simp [numsK, *]) | exact numsE (l := [a.who, a.whom, a.amount]) (by simp [numsK, *]) | exact numsE (l := [a.who]) (by simp [numsK, *]) | exact numsE (l := [a.amount]) (by simp [numsK, *])))
            · have g25 := cnd_beq_f h25
              refine k_br (fun h27 => ?_) (fun h27 => ?_)
              · have g27 := cnd_beq_t h27
                exact k_out ((by first | (exfalso; omega) | exact numsO (by simp [numsK, *]) | exact numsE (l := [a.who, a.amount]) (by simp [numsK, *]) | exact numsE (l := [a.who, a.whom, a.amount]) (by simp [numsK, *]) | exact numsE (l := [a.who]) (by simp [numsK, *]) | exact numsE (l := [a.amount]) (by simp [numsK, *])))
              · have g27 := cnd_beq_f h27
                exact k_out ((by first | (exfalso; omega) | exact numsO (by simp [numsK, *]) | exact numsE (l := [a.who, a.amount]) (by simp [numsK, *]) | exact numsE (l := [a.who, a.whom, a.amount]) (by simp [numsK, *]) | exact numsE (l := [a.who]) (by simp [numsK, *]) | exact numsE (l := [a.amount]) (by simp [numsK, *])))
      · have g16 := cnd_beq_f h16
        refine k_br (fun h30 => ?_) (fun h30 => ?_)
        · have g30 := cnd_beq_t h30
          exact k_out ((by first | (exfalso; omega) | exact numsO (by simp [numsK, *]) | exact numsE (l := [a.who, a.amount]) (by simp [numsK, *]) | exact numsE (l := [a.who, a.whom, a.amount]) (by simp [numsK, *]) | exact numsE (l := [a.who]) (by simp [numsK, *]) | exact numsE (l := [a.amount]) (by simp [numsK, *])))
        · have g30 := cnd_beq_f h30
          refine k_br (fun h32 => ?_) (fun h32 => ?_)
          · have g32 := cnd_beq_t h32
            refine k_br (fun h33 => ?_) (fun h33 => ?_)
            · have g33 := cnd_beq_t h33
              exact k_out ((by first | (exfalso; omega) | exact numsO (by simp [numsK, *]) | exact numsE (l := [a.who, a.amount]) (by simp [numsK, *]) | exact numsE (l := [a.who, a.whom, a.amount]) (by simp [numsK, *]) | exact numsE (l := [a.who]) (by simp [numsK, *]) | exact numsE (l := [a.amount]) (by simp [numsK, *])))
            · have g33 := cnd_beq_f h33
              refine k_br (fun h35 => ?_) (fun h35 => ?_)
              · have g35 := cnd_beq_t h35
                exact k_out ((by first | (exfalso; omega) | exact numsO (by simp [numsK, *]) | exact numsE (l := [a.who, a.amount]) (by simp [numsK, *]) | exact numsE (l := [a.who, a.whom, a.amount]) (by simp [numsK, *]) | exact numsE (l := [a.who]) (by simp [numsK, *]) | exact numsE (l := [a.amount]) (by simp [numsK, *])))
              · have g35 := cnd_beq_f h35
                exact k_out ((by first | (exfalso; omega) | exact numsO (by simp [numsK, *]) | exact numsE (l := [a.who, a.amount]) (by simp [numsK, *]) | exact numsE (l := [a.who, a.whom, a.amount]) (by simp [numsK, *]) | exact numsE (l := [a.who]) (by simp [numsK, *]) | exact numsE (l := [a.amount]) (by simp [numsK, *])))
          · have g32 := cnd_beq_f h32
            refine k_br (fun h38 => ?_) (fun h38 => ?_)
            · have g38 := cnd_beq_t h38
              exact k_out ((by first | (exfalso; omega) | exact numsO (by simp [numsK, *]) | exact numsE (l := [a.who, a.amount]) (by simp [numsK, *]) | exact numsE (l := [a.who, a.whom, a.amount]) (by simp [numsK, *]) | exact numsE (l := [a.who]) (by simp [numsK, *]) | exact numsE (l := [a.amount]) (by simp [numsK, *])))
            · have g38 := cnd_beq_f h38
              refine k_br (fun h40 => ?_) (fun h40 => ?_)
              · have g40 := cnd_beq_t h40
                exact k_out ((by first | (exfalso; omega) | exact numsO (by simp [numsK, *]) | exact numsE (l := [a.who, a.amount]) (by simp [numsK, *]) | exact numsE (l := [a.who, a.whom, a.amount]) (by simp [numsK, *]) | exact numsE (l := [a.who]) (by simp [numsK, *]) | exact numsE (l := [a.amount]) (by simp [numsK, *])))
              · have g40 := cnd_beq_f h40
                exact k_out ((by first | (exfalso; omega) | exact numsO (by simp [numsK, *]) | exact numsE (l := [a.who, a.amount]) (by simp [numsK, *]) | exact numsE (l := [a.who, a.whom, a.amount]) (by simp [numsK, *]) | exact numsE (l := [a.who]) (by simp [numsK, *]) | exact numsE (l := [a.amount]) (by simp [numsK, *])))

end Go.Proofs.YtbmdmoknnlhdoaaDoor
