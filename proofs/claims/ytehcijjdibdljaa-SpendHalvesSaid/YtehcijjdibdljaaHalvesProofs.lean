/- SpendHalves returns true for every input, and the input reads behind the call as it read before; no conditions. -/
import Derived.Test.YtehcijjdibdljaaRows
import Derived.Test.YtehcijjdibdljaaHalves
import Derived.Test.YtehcijjdibdljaaAmLaw
namespace Go.Proofs.Ytehcijjdibdljaa
open Go.ChangeShapes Go.WideShapes Go.ChangeAt Go.RowKit Go.Am

theorem Try.own : ownKnob Try.prog.godebug = none := by kernel_rfl
theorem Try.laidOut : laidOutB Try.prog = true := by kernel_rfl

theorem open_pair {H : Type} {enc : TypeId × Value → H} {P : Program} {W : World} {r : Reach} {b0 : Nat} {t : TypeId} {f0 f1 : Field} {k0 k1 : IntKind} {v : Value} {d : DataW H} {ps : List MemPlace} {sp : Nat → Bool} (ht : P.underlying t = some (.struct #[f0, f1]))
    (o0 : f0.offset = 0) (o1 : f1.offset = 1) (i0 : P.underlying f0.type = some (.int k0)) (i1 : P.underlying f1.type = some (.int k1)) (c : P.cellsOf t = 2) (c0 : P.cellsOf f0.type = 1) (c1 : P.cellsOf f1.type = 1)
    (hv : Value.okWide P W r b0 t v) (h : DataW.Trod enc P W 0 sp true t v d ps) : ∃ l i, v = .agg #[.int k0 l, .int k1 i] := by
  obtain ⟨cs, rfl, hsz⟩ := okWide_struct ht hv
  obtain ⟨fuel, hf⟩ := h
  obtain ⟨y0, y1, n, hx, hlen, g0, g1⟩ := trod_struct2 ht hf
  obtain ⟨l, e0, _⟩ := DataW.trod_int i0 g0
  obtain ⟨i, e1, _⟩ := DataW.trod_int i1 g1
  rw [c] at hlen
  rw [c0, o0] at e0
  rw [c1, o1] at e1
  obtain ⟨cs⟩ := cs
  simp only [Value.cells] at hlen e0 e1
  match cs, hlen, e0, e1 with
  | [x, y], _, e0, e1 =>
    simp at e0 e1
    exact ⟨l, i, by rw [e0, e1]⟩

theorem rels_halves {W : World} {a l i b : Int} : Rels (Book.none fun _ => False) W [.int .i64 a, .agg [.int .i64 l, .int .i64 i], .int .u32 b] #[.int .i64 a, .agg #[.int .i64 l, .int .i64 i], .int .u32 b] := by
  refine ⟨rfl, fun j u x hu hx => ?_⟩
  match j, hu, hx with
  | 0, hu, hx => cases hu; cases hx; exact .int
  | 1, hu, hx =>
    cases hu; cases hx
    refine .agg rfl (fun j u x hu hx => ?_)
    match j, hu, hx with
    | 0, hu, hx => cases hu; cases hx; exact .int
    | 1, hu, hx => cases hu; cases hx; exact .int
  | 2, hu, hx => cases hu; cases hx; exact .int

set_option maxRecDepth 100000 in
theorem spendHalves_lifted (os : Os) (started : os.Started) (H : Type) (enc : TypeId × Value → H) :
    ReturnsInHanded {} Try.checked os 3 .any (Rows.spendHalvesSpec.pre6 enc Try.prog Try.f3 Rows.spendHalvesRow.domain false) (Rows.spendHalvesSpec.post enc Try.prog Try.f3 false true false false) := by
  refine returnsInHanded_of_change (C := Try.checked) Try.own started (by kernel_rfl) Try.func3
    (ChangeSpec.witness6 (enc := enc) (C := Try.checked) false ⟨#[], #[.int .i64 0, .agg #[.int .i64 0, .int .i64 0], .int .u32 0], []⟩ 8 (by kernel_rfl) (by kernel_rfl) (by kernel_rfl) (by kernel_rfl)) ?_
  intro W base args ds gs before hval0 hW hcnd _
  have hval : ∀ (j : Nat) t v, Try.f3.params[j]? = some t → args[j]? = some v → Value.okWide Try.prog W .any base t v := hval0
  have hW' := hW
  obtain ⟨p, q, hA0, hV, rfl, hfz, hnd⟩ := hW
  have hA : DataW.TrodAll enc Try.prog W 0 (fun _ => true) true Try.f3.params.toList args.toList ds p := hA0
  rw [Try.params3] at hA hval
  obtain ⟨v0, v1, v2, d0, d1, d2, p0, p1, p2, rfl, rfl, rfl, h0, h1, h2⟩ := trodAll_three hA
  obtain ⟨a, rfl, rfl, rfl, wa⟩ := open_int Try.underlying3 (hval 0 3 v0 rfl rfl) h0
  obtain ⟨b, rfl, rfl, rfl, wb⟩ := open_int Try.underlying24 (hval 2 24 v2 rfl rfl) h2
  have hl : ∃ l i, v1 = .agg #[.int .i64 l, .int .i64 i] := by
    exact open_pair Try.underlying23 rfl rfl Try.underlying3 Try.underlying3 (by kernel_rfl) (by kernel_rfl) (by kernel_rfl) (hval 1 23 v1 rfl rfl) h1
  obtain ⟨l, i, rfl⟩ := hl
  have hb : 0 ≤ b ∧ b ≤ 4294967295 := by
    simp only [Lit.wf, Bool.and_eq_true, decide_eq_true_eq] at wb
    exact wb
  refine (halves_c a l i b hb.1 hb.2).calls (fun g m h hg => by cases hg) rels_halves (fun W2 hB => ⟨_, rfl, ?_⟩)
  exact post_law (tb := 4) Try.laidOut rfl (by kernel_rfl) (by kernel_rfl) (by kernel_rfl) hW' hB rfl

theorem spendHalves_holds : Rows.SpendHalvesSaid :=
  OpenClaim.holds_of_wide 3 Try.f3 rfl rfl rfl rfl rfl rfl rfl ⟨rfl, rfl, rfl, rfl, rfl⟩ rfl rfl rfl rfl rfl (by kernel_rfl) Try.func3 (by kernel_rfl)
    (of_decide_eq_true (by kernel_rfl)) (by unfold Func.isWrapper; first | (rw [if_pos (by decide +kernel)]; kernel_rfl) | (rw [if_neg (by decide +kernel)]; exact ⟨rfl, rfl⟩))
    (fun os started H enc _ => spendHalves_lifted os started H enc)

end Go.Proofs.Ytehcijjdibdljaa
