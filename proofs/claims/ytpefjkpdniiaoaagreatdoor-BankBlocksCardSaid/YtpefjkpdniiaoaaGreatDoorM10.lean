/- Part of the proof: CBlkRow. -/
import Derived.Test.YtpefjkpdniiaoaaGreatDoorRows
import Derived.Test.YtpefjkpdniiaoaaGreatDoorTie
import Derived.Test.YtpefjkpdniiaoaaGreatDoorCards
import Derived.Test.YtpefjkpdniiaoaaGreatDoorM9
import Derived.ProofKit
import Derived.LaidMore
import Derived.OpenShut
import Derived.Stop.Joined
import Derived.SevenTiedAt
namespace Go.Proofs.YtpefjkpdniiaoaaGreatDoor
open Go.ChangeShapes Go.WideShapes Go.ChangeAt Go.RowKit Go.Am Go.Sp

theorem own : ownKnob Tryz.prog.godebug = none := by kernel_rfl
theorem laidOut : laidOutB Tryz.prog = true := by kernel_rfl

set_option maxRecDepth 100000 in
theorem NN {w : World} (h : laidMetH Tryz.prog Rows.bankBlocksRow.laid w) : mJ aZ qj w := by
  have hp : (Rows.bankBlocksRow.laid.all fun x => x.2.handleName?.isNone) = true := by kernel_rfl
  have b0 := ll (β := qj) h hp 1 "specie/prime.bases" (n := 12) (k := .u64) (F := de) (by kernel_rfl) (g := 0) (by kernel_rfl) (by kernel_rfl) (by decide) (kH _)
  have b1 := ll (β := qj) h hp 0 "math/bits.deBruijn64tab" (n := 64) (k := .u8) (F := dbF) (by kernel_rfl) (g := 2) (by kernel_rfl) (by kernel_rfl) (by decide) (kH _)
  have b2 := ll (β := qj) h hp 3 "specie/digest.start" (n := 8) (k := .u32) (F := xH) (by kernel_rfl) (g := 1) (by kernel_rfl) (by kernel_rfl) (by decide) (kH _)
  have b3 := ll (β := qj) h hp 2 "specie/digest.constants" (n := 64) (k := .u32) (F := kF) (by kernel_rfl) (g := 3) (by kernel_rfl) (by kernel_rfl) (by decide) (kH _)
  intro g m f hg
  unfold aZ at hg
  cases e0 : Nat.beq g 0 with
  | true =>
    rw [e0] at hg; obtain rfl := Nat.eq_of_beq_eq_true e0
    simp only [cond_true, Option.some.injEq, Prod.mk.injEq] at hg; obtain ⟨rfl, rfl⟩ := hg; exact b0
  | false =>
  cases e1 : Nat.beq g 2 with
  | true =>
    rw [e0, e1] at hg; obtain rfl := Nat.eq_of_beq_eq_true e1
    simp only [cond_true, cond_false, Option.some.injEq, Prod.mk.injEq] at hg; obtain ⟨rfl, rfl⟩ := hg; exact b1
  | false =>
  cases e2 : Nat.beq g 1 with
  | true =>
    rw [e0, e1, e2] at hg; obtain rfl := Nat.eq_of_beq_eq_true e2
    simp only [cond_true, cond_false, Option.some.injEq, Prod.mk.injEq] at hg; obtain ⟨rfl, rfl⟩ := hg; exact b2
  | false =>
  cases e3 : Nat.beq g 3 with
  | true =>
    rw [e0, e1, e2, e3] at hg; obtain rfl := Nat.eq_of_beq_eq_true e3
    simp only [cond_true, cond_false, Option.some.injEq, Prod.mk.injEq] at hg; obtain ⟨rfl, rfl⟩ := hg; exact b3
  | false => rw [e0, e1, e2, e3] at hg; cases hg

set_option maxRecDepth 100000 in
theorem BU (os : Os) (args : Array Value) : laidMetH Tryz.prog Rows.bankBlocksRow.laid ((World.doorLaid Tryz.prog 29 os).forCall (fun _ _ => 0) ⟨#[], args, []⟩).memory :=
  laidMetH_of_parts3 (fuel := 8) (laidMet_of_run' 8 (by kernel_rfl) (by kernel_rfl)) (by kernel_rfl) (by kernel_rfl)

set_option maxRecDepth 100000 in
theorem m9 (os : Os) (started : os.Started) (H : Type) (enc : TypeId × Value → H) :
    ReturnsInHanded {} Tryz.checked os 3 .any (fun w args => (Rows.bankBlocksSpec.pre enc Tryz.prog Tryz.f3 [] false w args ∧ laidMetH Tryz.prog Rows.bankBlocksRow.laid w) ∧ sizedMet enc Tryz.prog Tryz.f3 (OpenSpec.ofChange Rows.bankBlocksSpec) false w args)
      (Rows.bankBlocksSpec.post enc Tryz.prog Tryz.f3 false true false false) := by
  refine returnsInHanded_of_change_and (C := Tryz.checked) (X := fun w _ => laidMetH Tryz.prog Rows.bankBlocksRow.laid w) (fun _ _ _ hh h => h.of_heap hh) own started (by kernel_rfl) Tryz.func3
    (ChangeSpec.witness_shaped (enc := enc) (C := Tryz.checked) (os := os) (X := fun w _ => laidMetH Tryz.prog Rows.bankBlocksRow.laid w) false (World.doorLaid Tryz.prog 29 os) #[.agg (Array.replicate 8 (.int .i64 0) ++ Array.replicate 8 (.slice none 0 0) ++ Array.replicate 32 (.int .u8 0) ++ Array.replicate 2 (.int .i64 0)), .agg (Array.replicate 5 (.int .i64 0) ++ Array.replicate 32 (.int .u8 0) ++ Array.replicate 6 (.int .i64 0) ++ Array.replicate 32 (.int .u8 0) ++ #[.int .i64 0, .int .i64 0, .slice none 0 0, .int .i64 0, .slice none 0 0] ++ Array.replicate 5 (.int .i64 0) ++ Array.replicate 32 (.int .u8 0) ++ Array.replicate 6 (.int .i64 0) ++ Array.replicate 32 (.int .u8 0) ++ #[.int .i64 0, .int .i64 0, .slice none 0 0, .int .i64 0, .slice none 0 0] ++ #[.int .i64 0])] 8 rfl (World.shaped_of_RefB (by kernel_rfl) (by kernel_rfl)) (by kernel_rfl) (by kernel_rfl) (by kernel_rfl) (BU os _)) ?_
  intro W base args ds gs before hval0 hW hcnd _ hL _
  have hW' := hW
  obtain ⟨p, q, hA0, hV, rfl, hfz, hnd⟩ := hW
  have hA : DataW.TrodAll enc Tryz.prog W 0 (fun _ => true) true Tryz.f3.params.toList args.toList ds p := hA0
  obtain ⟨G, hG, hR, f, hds⟩ := uC (S := [(true, uS), (true, vM)]) 0 (by kernel_rfl) hA (fun j t v ht hv => hval0 j t v (by simpa using ht) (by simpa using hv))
  refine (sO (G 0) (G 1) (hG 0 _ rfl) (hG 1 _ rfl)).calls (NN hL) hR (fun W2 hB => ⟨_, rfl, ?_⟩)
  exact BO (tb := 4) laidOut rfl (by kernel_rfl) (by kernel_rfl) (by kernel_rfl) hW' hB (by rw [hds]; rfl)

theorem cM {a b : Bool} (h : a = true) (k : b = true) : (a && b) = true := by rw [h, k]; rfl

set_option maxHeartbeats 4000000 in
theorem oo : joinedFacts Tryz.pinned.checked.prog 3 Tryz.f3 Rows.bankBlocksSpec Rows.bankBlocksRow = true := by
  unfold joinedFacts
  refine cM (cM (cM (cM (cM (cM (cM (cM (cM (cM (cM (cM (cM (cM (cM (cM (cM (cM (cM (cM (cM (cM (cM (cM (cM (cM (cM (cM (cM (cM (cM ?_ ?_) ?_) ?_) ?_) ?_) ?_) ?_) ?_) ?_) ?_) ?_) ?_) ?_) ?_) ?_) ?_) ?_) ?_) ?_) ?_) ?_) ?_) ?_) ?_) ?_) ?_) ?_) ?_) ?_) ?_) ?_
  all_goals decide +kernel

theorem Ij : Tryz.pinned.checked.prog.funcNamed Rows.bankBlocksRow.func = some 3 := by kernel_rfl
theorem Nl : Tryz.f3.isInstance Tryz.pinned.checked.prog Rows.bankBlocksRow.origin Rows.bankBlocksRow.targs := of_decide_eq_true (by kernel_rfl)
theorem MU : Tryz.f3.isWrapper Tryz.pinned.checked.prog Rows.bankBlocksRow.wrapper Rows.bankBlocksRow.mainSum := by unfold Func.isWrapper; first | (rw [if_pos (by decide +kernel)]; kernel_rfl) | (rw [if_neg (by decide +kernel)]; exact ⟨rfl, rfl⟩)
theorem pK : Rows.BankBlocksSaid :=
  OpenClaim.holds_of_wide 3 Tryz.f3 rfl rfl rfl rfl rfl rfl rfl ⟨rfl, rfl, rfl, rfl, rfl⟩ rfl rfl rfl rfl rfl Ij Tryz.func3 oo Nl MU
    (fun os started H enc _ => m9 os started H enc)

end Go.Proofs.YtpefjkpdniiaoaaGreatDoor
