/- RogueAlters returns true for every input, and the input reads behind the call as it read before; no conditions. -/
import Derived.Test.YtehcijjdibdljaaRows
import Derived.Test.YtehcijjdibdljaaB8
import Derived.Test.YtehcijjdibdljaaSpOpen
namespace Go.Proofs.Ytehcijjdibdljaa
open Go.ChangeShapes Go.WideShapes Go.ChangeAt Go.RowKit Go.Am Go.Sp

theorem Try.own : ownKnob Try.prog.godebug = none := by kernel_rfl
theorem Try.laidOut : laidOutB Try.prog = true := by kernel_rfl

set_option maxRecDepth 100000 in
theorem rogueAlters_lifted (os : Os) (started : os.Started) (H : Type) (enc : TypeId × Value → H) :
    ReturnsInHanded {} Try.checked os 4 .any (Rows.rogueAltersSpec.pre6 enc Try.prog Try.f4 Rows.rogueAltersRow.domain false) (Rows.rogueAltersSpec.post enc Try.prog Try.f4 false true false false) := by
  refine returnsInHanded_of_change (C := Try.checked) Try.own started (by kernel_rfl) Try.func4
    (ChangeSpec.witness6 (enc := enc) (C := Try.checked) false ⟨#[], #[.agg (#[.int .i64 0, .int .i64 0, .int .i64 0, .int .i64 0, .int .i64 0] ++ Array.replicate 32 (.int .u8 0) ++ Array.replicate 6 (.int .i64 0) ++ Array.replicate 32 (.int .u8 0) ++ #[.int .i64 0, .int .i64 0, .slice none 0 0, .int .i64 0, .slice none 0 0]), .int .i64 0, .int .i64 0], []⟩ 8 (by kernel_rfl) (by kernel_rfl) (by kernel_rfl) (by kernel_rfl)) ?_
  intro W base args ds gs before hval0 hW hcnd _
  have hval : ∀ (j : Nat) t v, Try.f4.params[j]? = some t → args[j]? = some v → Value.okWide Try.prog W .any base t v := hval0
  have hW' := hW
  obtain ⟨p, q, hA0, hV, rfl, hfz, hnd⟩ := hW
  have hA : DataW.TrodAll enc Try.prog W 0 (fun _ => true) true Try.f4.params.toList args.toList ds p := hA0
  rw [Try.params4] at hA hval
  obtain ⟨v0, v1, v2, d0, d1, d2, p0, p1, p2, rfl, rfl, rfl, h0, h1, h2⟩ := trodAll_three hA
  obtain ⟨k, rfl, rfl, rfl, wk⟩ := open_int Try.underlying3 (hval 1 3 v1 rfl rfl) h1
  obtain ⟨b, rfl, rfl, rfl, wb⟩ := open_int Try.underlying3 (hval 2 3 v2 rfl rfl) h2
  obtain ⟨cs, rfl, hfit⟩ := open_agg (P := Try.prog) (t := 48) (ts := spendT) (by kernel_rfl) (by kernel_rfl) (hval 0 48 v0 rfl rfl) h0
  obtain ⟨s, hs⟩ := spend_of hfit
  refine (rogueAlters_c s k b).calls (fun g m h hg => by cases hg) (Rels.cons hs (Rels.cons .int (Rels.cons .int Rels.nil))) (fun W2 hB => ⟨_, rfl, ?_⟩)
  exact post_law (tb := 4) Try.laidOut rfl (by kernel_rfl) (by kernel_rfl) (by kernel_rfl) hW' hB rfl

theorem rogueAlters_holds : Rows.RogueAltersSaid :=
  OpenClaim.holds_of_wide 4 Try.f4 rfl rfl rfl rfl rfl rfl rfl ⟨rfl, rfl, rfl, rfl, rfl⟩ rfl rfl rfl rfl rfl (by kernel_rfl) Try.func4 (by kernel_rfl)
    (of_decide_eq_true (by kernel_rfl)) (by unfold Func.isWrapper; first | (rw [if_pos (by decide +kernel)]; kernel_rfl) | (rw [if_neg (by decide +kernel)]; exact ⟨rfl, rfl⟩))
    (fun os started H enc _ => rogueAlters_lifted os started H enc)

end Go.Proofs.Ytehcijjdibdljaa
