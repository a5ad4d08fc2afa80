/- Part of the proof: AExsRow. -/
import Derived.Test.YtcageinnelhonaaGreatDoorRows
import Derived.Test.YtcageinnelhonaaGreatDoorTie
import Derived.Test.YtcageinnelhonaaGreatDoorCards
import Derived.Test.YtcageinnelhonaaGreatDoorM8
import Derived.Test.YtcageinnelhonaaGreatDoorM7
import Derived.ProofKit
import Derived.LaidMore
import Derived.OpenShut
import Derived.Stop.Joined
import Derived.SevenTiedAt
namespace Go.Proofs.YtcageinnelhonaaGreatDoor
open Go.ChangeShapes Go.WideShapes Go.ChangeAt Go.RowKit Go.Am Go.Sp

theorem own : ownKnob Tryz.prog.godebug = none := by kernel_rfl
theorem laidOut : laidOutB Tryz.prog = true := by kernel_rfl

set_option maxRecDepth 100000 in
theorem globs {w : World} (h : laidMetH Tryz.prog Rows.supplyExpiresRow.laid w) : GlobB gl0 noB w := by
  have hp : (Rows.supplyExpiresRow.laid.all fun x => x.2.handleName?.isNone) = true := by kernel_rfl
  have b0 := glob_ints (β := noB) h hp 1 "specie/prime.bases" (n := 12) (k := .u64) (F := bsF) (by kernel_rfl) (g := 0) (by kernel_rfl) (by kernel_rfl) (by decide) (noB_free _)
  have b1 := glob_ints (β := noB) h hp 0 "math/bits.deBruijn64tab" (n := 64) (k := .u8) (F := dbF) (by kernel_rfl) (g := 1) (by kernel_rfl) (by kernel_rfl) (by decide) (noB_free _)
  have b2 := glob_ints (β := noB) h hp 3 "specie/digest.start" (n := 8) (k := .u32) (F := stF) (by kernel_rfl) (g := 4) (by kernel_rfl) (by kernel_rfl) (by decide) (noB_free _)
  have b3 := glob_ints (β := noB) h hp 2 "specie/digest.constants" (n := 64) (k := .u32) (F := kF) (by kernel_rfl) (g := 5) (by kernel_rfl) (by kernel_rfl) (by decide) (noB_free _)
  intro g m f hg
  unfold gl0 at hg
  cases e0 : Nat.beq g 0 with
  | true =>
    rw [e0] at hg; obtain rfl := Nat.eq_of_beq_eq_true e0
    simp only [cond_true, Option.some.injEq, Prod.mk.injEq] at hg; obtain ⟨rfl, rfl⟩ := hg; exact b0
  | false =>
  cases e1 : Nat.beq g 1 with
  | true =>
    rw [e0, e1] at hg; obtain rfl := Nat.eq_of_beq_eq_true e1
    simp only [cond_true, cond_false, Option.some.injEq, Prod.mk.injEq] at hg; obtain ⟨rfl, rfl⟩ := hg; exact b1
  | false =>
  cases e2 : Nat.beq g 4 with
  | true =>
    rw [e0, e1, e2] at hg; obtain rfl := Nat.eq_of_beq_eq_true e2
    simp only [cond_true, cond_false, Option.some.injEq, Prod.mk.injEq] at hg; obtain ⟨rfl, rfl⟩ := hg; exact b2
  | false =>
  cases e3 : Nat.beq g 5 with
  | true =>
    rw [e0, e1, e2, e3] at hg; obtain rfl := Nat.eq_of_beq_eq_true e3
    simp only [cond_true, cond_false, Option.some.injEq, Prod.mk.injEq] at hg; obtain ⟨rfl, rfl⟩ := hg; exact b3
  | false => rw [e0, e1, e2, e3] at hg; cases hg

set_option maxRecDepth 100000 in
theorem door_met (os : Os) (args : Array Value) : laidMetH Tryz.prog Rows.supplyExpiresRow.laid ((World.doorLaid Tryz.prog 29 os).forCall (fun _ _ => 0) ⟨#[], args, []⟩).memory :=
  laidMetH_of_parts3 (fuel := 8) (laidMet_of_run' 8 (by kernel_rfl) (by kernel_rfl)) (by kernel_rfl) (by kernel_rfl)

set_option maxRecDepth 100000 in
theorem supplyExpires_lifted (os : Os) (started : os.Started) (H : Type) (enc : TypeId × Value → H) :
    ReturnsInHanded {} Tryz.checked os 4 .any (fun w args => (Rows.supplyExpiresSpec.pre enc Tryz.prog Tryz.f4 [] false w args ∧ laidMetH Tryz.prog Rows.supplyExpiresRow.laid w) ∧ sizedMet enc Tryz.prog Tryz.f4 (OpenSpec.ofChange Rows.supplyExpiresSpec) false w args)
      (Rows.supplyExpiresSpec.post enc Tryz.prog Tryz.f4 false true false false) := by
  refine returnsInHanded_of_change_and (C := Tryz.checked) (X := fun w _ => laidMetH Tryz.prog Rows.supplyExpiresRow.laid w) (fun _ _ _ hh h => h.of_heap hh) own started (by kernel_rfl) Tryz.func4
    (ChangeSpec.witness_shaped (enc := enc) (C := Tryz.checked) (os := os) (X := fun w _ => laidMetH Tryz.prog Rows.supplyExpiresRow.laid w) false (World.doorLaid Tryz.prog 29 os) #[.agg (Array.replicate 8 (.int .i64 0) ++ Array.replicate 8 (.slice none 0 0) ++ Array.replicate 32 (.int .u8 0) ++ Array.replicate 2 (.int .i64 0)), .int .i64 0] 8 rfl (World.shaped_of_RefB (by kernel_rfl) (by kernel_rfl)) (by kernel_rfl) (by kernel_rfl) (by kernel_rfl) (door_met os _)) ?_
  intro W base args ds gs before hval0 hW hcnd _ hL _
  have hW' := hW
  obtain ⟨p, q, hA0, hV, rfl, hfz, hnd⟩ := hW
  have hA : DataW.TrodAll enc Tryz.prog W 0 (fun _ => true) true Tryz.f4.params.toList args.toList ds p := hA0
  obtain ⟨G, hG, hR, f, hds⟩ := open_all (S := [(true, bankT), (false, i64s 1)]) 0 (by kernel_rfl) hA (fun j t v ht hv => hval0 j t v (by simpa using ht) (by simpa using hv))
  refine (supplyExpires_g (G 0) (G 1) (hG 0 _ rfl)).calls (globs hL) hR (fun W2 hB => ⟨_, rfl, ?_⟩)
  exact post_law (tb := 4) laidOut rfl (by kernel_rfl) (by kernel_rfl) (by kernel_rfl) hW' hB (by rw [hds]; rfl)

theorem and_tt {a b : Bool} (h : a = true) (k : b = true) : (a && b) = true := by rw [h, k]; rfl

set_option maxHeartbeats 4000000 in
theorem supplyExpires_facts : joinedFacts Tryz.pinned.checked.prog 4 Tryz.f4 Rows.supplyExpiresSpec Rows.supplyExpiresRow = true := by
  unfold joinedFacts
  refine and_tt (and_tt (and_tt (and_tt (and_tt (and_tt (and_tt (and_tt (and_tt (and_tt (and_tt (and_tt (and_tt (and_tt (and_tt (and_tt (and_tt (and_tt (and_tt (and_tt (and_tt (and_tt (and_tt (and_tt (and_tt (and_tt (and_tt (and_tt (and_tt (and_tt (and_tt ?_ ?_) ?_) ?_) ?_) ?_) ?_) ?_) ?_) ?_) ?_) ?_) ?_) ?_) ?_) ?_) ?_) ?_) ?_) ?_) ?_) ?_) ?_) ?_) ?_) ?_) ?_) ?_) ?_) ?_) ?_) ?_
  all_goals decide +kernel

theorem row_1 : Tryz.pinned.checked.prog.funcNamed Rows.supplyExpiresRow.func = some 4 := by kernel_rfl
theorem row_2 : Tryz.f4.isInstance Tryz.pinned.checked.prog Rows.supplyExpiresRow.origin Rows.supplyExpiresRow.targs := of_decide_eq_true (by kernel_rfl)
theorem row_3 : Tryz.f4.isWrapper Tryz.pinned.checked.prog Rows.supplyExpiresRow.wrapper Rows.supplyExpiresRow.mainSum := by unfold Func.isWrapper; first | (rw [if_pos (by decide +kernel)]; kernel_rfl) | (rw [if_neg (by decide +kernel)]; exact ⟨rfl, rfl⟩)
theorem supplyExpires_row : Rows.SupplyExpiresSaid :=
  OpenClaim.holds_of_wide 4 Tryz.f4 rfl rfl rfl rfl rfl rfl rfl ⟨rfl, rfl, rfl, rfl, rfl⟩ rfl rfl rfl rfl rfl row_1 Tryz.func4 supplyExpires_facts row_2 row_3
    (fun os started H enc _ => supplyExpires_lifted os started H enc)

end Go.Proofs.YtcageinnelhonaaGreatDoor
