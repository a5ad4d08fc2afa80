/- RogueReplays returns true for every input, and the input reads behind the call as it read before; no conditions. -/
import Derived.Test.YtehcijjdibdljaaRows
import Derived.Test.YtehcijjdibdljaaP7
import Derived.Test.YtehcijjdibdljaaSpOpenP
namespace Go.Proofs.Ytehcijjdibdljaa
open Go.ChangeShapes Go.WideShapes Go.ChangeAt Go.RowKit Go.Am Go.Sp

theorem Try.own : ownKnob Try.prog.godebug = none := by kernel_rfl
theorem Try.laidOut : laidOutB Try.prog = true := by kernel_rfl

set_option maxRecDepth 100000 in
theorem rogueReplays_lifted (os : Os) (started : os.Started) (H : Type) (enc : TypeId × Value → H) :
    ReturnsInHanded {} Try.checked os 5 .any (Rows.rogueReplaysSpec.pre6 enc Try.prog Try.f5 Rows.rogueReplaysRow.domain false) (Rows.rogueReplaysSpec.post enc Try.prog Try.f5 false true false false) := by
  refine returnsInHanded_of_change (C := Try.checked) Try.own started (by kernel_rfl) Try.func5
    (ChangeSpec.witness6 (enc := enc) (C := Try.checked) false ⟨#[], #[.agg #[.int .i64 0, .slice none 0 0, .slice none 0 0, .slice none 0 0], .agg (Array.replicate 32 (.int .u8 0) ++ #[.int .i64 0, .int .i64 0, .int .i64 0])], []⟩ 8 (by kernel_rfl) (by kernel_rfl) (by kernel_rfl) (by kernel_rfl)) ?_
  intro W base args ds gs before hval0 hW hcnd _
  have hW' := hW
  obtain ⟨p, q, hA0, hV, rfl, hfz, hnd⟩ := hW
  have hA : DataW.TrodAll enc Try.prog W 0 (fun _ => true) true Try.f5.params.toList args.toList ds p := hA0
  obtain ⟨G, hG, hR, f, hds⟩ := open_all (S := [(true, payT), (true, invT)]) 0 (by kernel_rfl) hA (fun j t v ht hv => hval0 j t v (by simpa using ht) (by simpa using hv))
  have h2 := (hG 0 _ rfl 2 (.sl chnT) rfl).sl_inv
  refine (rogueReplays_c (payOf (G 0)) (invOf (G 1)) (fun i hi => ?_)).calls (fun g m h hg => by cases hg) hR (fun W2 hB => ⟨_, rfl, ?_⟩)
  · have : _ ≤ maxLen := ((h2.2 i 80 (.sl spendT) hi rfl).sl_inv).1
    exact Nat.lt_of_le_of_lt this (by decide)
  · exact post_law (tb := 4) Try.laidOut rfl (by kernel_rfl) (by kernel_rfl) (by kernel_rfl) hW' hB (by rw [hds]; rfl)

theorem rogueReplays_holds : Rows.RogueReplaysSaid :=
  OpenClaim.holds_of_wide 5 Try.f5 rfl rfl rfl rfl rfl rfl rfl ⟨rfl, rfl, rfl, rfl, rfl⟩ rfl rfl rfl rfl rfl (by kernel_rfl) Try.func5 (by kernel_rfl)
    (of_decide_eq_true (by kernel_rfl)) (by unfold Func.isWrapper; first | (rw [if_pos (by decide +kernel)]; kernel_rfl) | (rw [if_neg (by decide +kernel)]; exact ⟨rfl, rfl⟩))
    (fun os started H enc _ => rogueReplays_lifted os started H enc)

end Go.Proofs.Ytehcijjdibdljaa
