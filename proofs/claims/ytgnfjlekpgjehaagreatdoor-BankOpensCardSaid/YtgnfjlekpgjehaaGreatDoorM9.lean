/- Part of the proof: COpnRow. -/
import Derived.Test.YtgnfjlekpgjehaaGreatDoorRows
import Derived.Test.YtgnfjlekpgjehaaGreatDoorTie
import Derived.Test.YtgnfjlekpgjehaaGreatDoorCards
import Derived.Test.YtgnfjlekpgjehaaGreatDoorM8
import Derived.ProofKit
import Derived.LaidMore
import Derived.OpenShut
import Derived.Stop.Joined
import Derived.SevenTiedAt
namespace Go.Proofs.YtgnfjlekpgjehaaGreatDoor
open Go.ChangeShapes Go.WideShapes Go.ChangeAt Go.RowKit Go.Am Go.Sp

theorem own : ownKnob Tryz.prog.godebug = none := by kernel_rfl
theorem laidOut : laidOutB Tryz.prog = true := by kernel_rfl

set_option maxRecDepth 100000 in
theorem Og {w : World} (h : laidMetH Tryz.prog Rows.bankOpensRow.laid w) : mc aW pY w := by
  have hp : (Rows.bankOpensRow.laid.all fun x => x.2.handleName?.isNone) = true := by kernel_rfl
  have b0 := kW (β := pY) h hp 1 "specie/prime.bases" (n := 12) (k := .u64) (F := dk) (by kernel_rfl) (g := 0) (by kernel_rfl) (by kernel_rfl) (by decide) (kT _)
  have b1 := kW (β := pY) h hp 0 "math/bits.deBruijn64tab" (n := 64) (k := .u8) (F := dbF) (by kernel_rfl) (g := 2) (by kernel_rfl) (by kernel_rfl) (by decide) (kT _)
  have b2 := kW (β := pY) h hp 3 "specie/digest.start" (n := 8) (k := .u32) (F := yS) (by kernel_rfl) (g := 1) (by kernel_rfl) (by kernel_rfl) (by decide) (kT _)
  have b3 := kW (β := pY) h hp 2 "specie/digest.constants" (n := 64) (k := .u32) (F := kF) (by kernel_rfl) (g := 3) (by kernel_rfl) (by kernel_rfl) (by decide) (kT _)
  intro g m f hg
  unfold aW at hg
  cases e0 : Nat.beq g 0 with
  | true =>
    rw [e0] at hg; obtain rfl := Nat.eq_of_beq_eq_true e0
    simp only [cond_true, Option.some.injEq, Prod.mk.injEq] at hg; obtain ⟨rfl, rfl⟩ := hg; exact b0
  | false =>
  cases e1 : Nat.beq g 2 with
  | true =>
    rw [e0, e1] at hg; obtain rfl := Nat.eq_of_beq_eq_true e1
    simp only [cond_true, cond_false, Option.some.injEq, Prod.mk.injEq] at hg; obtain ⟨rfl, rfl⟩ := hg; exact b1
  | false =>
  cases e2 : Nat.beq g 1 with
  | true =>
    rw [e0, e1, e2] at hg; obtain rfl := Nat.eq_of_beq_eq_true e2
    simp only [cond_true, cond_false, Option.some.injEq, Prod.mk.injEq] at hg; obtain ⟨rfl, rfl⟩ := hg; exact b2
  | false =>
  cases e3 : Nat.beq g 3 with
  | true =>
    rw [e0, e1, e2, e3] at hg; obtain rfl := Nat.eq_of_beq_eq_true e3
    simp only [cond_true, cond_false, Option.some.injEq, Prod.mk.injEq] at hg; obtain ⟨rfl, rfl⟩ := hg; exact b3
  | false => rw [e0, e1, e2, e3] at hg; cases hg

set_option maxRecDepth 100000 in
theorem EC (os : Os) (args : Array Value) : laidMetH Tryz.prog Rows.bankOpensRow.laid ((World.doorLaid Tryz.prog 29 os).forCall (fun _ _ => 0) ⟨#[], args, []⟩).memory :=
  laidMetH_of_parts3 (fuel := 8) (laidMet_of_run' 8 (by kernel_rfl) (by kernel_rfl)) (by kernel_rfl) (by kernel_rfl)

set_option maxRecDepth 100000 in
theorem m9 (os : Os) (started : os.Started) (H : Type) (enc : TypeId × Value → H) :
    ReturnsInHanded {} Tryz.checked os 3 .any (fun w args => (Rows.bankOpensSpec.pre enc Tryz.prog Tryz.f3 [] false w args ∧ laidMetH Tryz.prog Rows.bankOpensRow.laid w) ∧ sizedMet enc Tryz.prog Tryz.f3 (OpenSpec.ofChange Rows.bankOpensSpec) false w args)
      (Rows.bankOpensSpec.post enc Tryz.prog Tryz.f3 false true false false) := by
  refine returnsInHanded_of_change_and (C := Tryz.checked) (X := fun w _ => laidMetH Tryz.prog Rows.bankOpensRow.laid w) (fun _ _ _ hh h => h.of_heap hh) own started (by kernel_rfl) Tryz.func3
    (ChangeSpec.witness_shaped (enc := enc) (C := Tryz.checked) (os := os) (X := fun w _ => laidMetH Tryz.prog Rows.bankOpensRow.laid w) false (World.doorLaid Tryz.prog 29 os) #[.agg (Array.replicate 6 (.int .i64 0)), .int .i64 0, .int .i64 0, .slice none 0 0, .agg (Array.replicate 8 (.int .i64 0) ++ Array.replicate 8 (.slice none 0 0) ++ Array.replicate 32 (.int .u8 0) ++ Array.replicate 2 (.int .i64 0)), .agg #[.int .i64 0, .slice none 0 0, .int .i64 0, .slice none 0 0], .int .i64 0] 8 rfl (World.shaped_of_RefB (by kernel_rfl) (by kernel_rfl)) (by kernel_rfl) (by kernel_rfl) (by kernel_rfl) (EC os _)) ?_
  intro W base args ds gs before hval0 hW hcnd _ hL _
  have hW' := hW
  obtain ⟨p, q, hA0, hV, rfl, hfz, hnd⟩ := hW
  have hA : DataW.TrodAll enc Tryz.prog W 0 (fun _ => true) true Tryz.f3.params.toList args.toList ds p := hA0
  obtain ⟨G, hG, hR, f, hds⟩ := u4 (S := [(true, iU 6), (false, iU 1), (false, iU 1), (false, [.sl (qN 1)]), (true, vG), (true, Mc), (false, iU 1)]) 0 (by kernel_rfl) hA (fun j t v ht hv => hval0 j t v (by simpa using ht) (by simpa using hv))
  refine (uH (G 0) (G 1) (G 2) (G 3) (G 4) (G 5) (G 6) (hG 0 _ rfl) (hG 3 _ rfl 0 _ rfl) (hG 4 _ rfl)).calls (Og hL) hR (fun W2 hB => ⟨_, rfl, ?_⟩)
  exact Cx (tb := 4) laidOut rfl (by kernel_rfl) (by kernel_rfl) (by kernel_rfl) hW' hB (by rw [hds]; rfl)

theorem cE {a b : Bool} (h : a = true) (k : b = true) : (a && b) = true := by rw [h, k]; rfl

set_option maxHeartbeats 4000000 in
theorem ou : joinedFacts Tryz.pinned.checked.prog 3 Tryz.f3 Rows.bankOpensSpec Rows.bankOpensRow = true := by
  unfold joinedFacts
  refine cE (cE (cE (cE (cE (cE (cE (cE (cE (cE (cE (cE (cE (cE (cE (cE (cE (cE (cE (cE (cE (cE (cE (cE (cE (cE (cE (cE (cE (cE (cE ?_ ?_) ?_) ?_) ?_) ?_) ?_) ?_) ?_) ?_) ?_) ?_) ?_) ?_) ?_) ?_) ?_) ?_) ?_) ?_) ?_) ?_) ?_) ?_) ?_) ?_) ?_) ?_) ?_) ?_) ?_) ?_
  all_goals decide +kernel

theorem IF : Tryz.pinned.checked.prog.funcNamed Rows.bankOpensRow.func = some 3 := by kernel_rfl
theorem OA : Tryz.f3.isInstance Tryz.pinned.checked.prog Rows.bankOpensRow.origin Rows.bankOpensRow.targs := of_decide_eq_true (by kernel_rfl)
theorem OC : Tryz.f3.isWrapper Tryz.pinned.checked.prog Rows.bankOpensRow.wrapper Rows.bankOpensRow.mainSum := by unfold Func.isWrapper; first | (rw [if_pos (by decide +kernel)]; kernel_rfl) | (rw [if_neg (by decide +kernel)]; exact ⟨rfl, rfl⟩)
theorem qD : Rows.BankOpensSaid :=
  OpenClaim.holds_of_wide 3 Tryz.f3 rfl rfl rfl rfl rfl rfl rfl ⟨rfl, rfl, rfl, rfl, rfl⟩ rfl rfl rfl rfl rfl IF Tryz.func3 ou OA OC
    (fun os started H enc _ => m9 os started H enc)

end Go.Proofs.YtgnfjlekpgjehaaGreatDoor
