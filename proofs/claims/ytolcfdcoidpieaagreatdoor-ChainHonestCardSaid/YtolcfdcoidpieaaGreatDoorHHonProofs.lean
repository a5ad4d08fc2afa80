/- ChainHonest returns true for every input, and the input reads behind the call as it read before; the listed package-level variables are tied to the program's text. -/
import Derived.Test.YtolcfdcoidpieaaGreatDoorRows
import Derived.Test.YtolcfdcoidpieaaGreatDoorTie
import Derived.Test.YtolcfdcoidpieaaGreatDoorCards
import Derived.Test.YtolcfdcoidpieaaGreatDoorM8
import Derived.ProofKit
import Derived.LaidMore
import Derived.OpenShut
import Derived.Stop.Joined
import Derived.SevenTiedAt
namespace Go.Proofs.YtolcfdcoidpieaaGreatDoor
open Go.ChangeShapes Go.WideShapes Go.ChangeAt Go.RowKit Go.Am Go.Sp

theorem own : ownKnob Tryz.prog.godebug = none := by kernel_rfl
theorem laidOut : laidOutB Tryz.prog = true := by kernel_rfl

set_option maxRecDepth 100000 in
theorem globs {w : World} (h : laidMetH Tryz.prog Rows.chainHonestRow.laid w) : GlobB gl0 noB w := by
  have hp : (Rows.chainHonestRow.laid.all fun x => x.2.handleName?.isNone) = true := by kernel_rfl
  have b0 := glob_ints (β := noB) h hp 1 "specie/prime.bases" (n := 12) (k := .u64) (F := bsF) (by kernel_rfl) (g := 0) (by kernel_rfl) (by kernel_rfl) (by decide) (noB_free _)
  have b1 := glob_ints (β := noB) h hp 0 "math/bits.deBruijn64tab" (n := 64) (k := .u8) (F := dbF) (by kernel_rfl) (g := 1) (by kernel_rfl) (by kernel_rfl) (by decide) (noB_free _)
  have b2 := glob_ints (β := noB) h hp 3 "specie/digest.start" (n := 8) (k := .u32) (F := stF) (by kernel_rfl) (g := 2) (by kernel_rfl) (by kernel_rfl) (by decide) (noB_free _)
  have b3 := glob_ints (β := noB) h hp 2 "specie/digest.constants" (n := 64) (k := .u32) (F := kF) (by kernel_rfl) (g := 5) (by kernel_rfl) (by kernel_rfl) (by decide) (noB_free _)
  intro g m f hg
  unfold gl0 at hg
  cases e0 : Nat.beq g 0 with
  | true =>
    rw [e0] at hg; obtain rfl := Nat.eq_of_beq_eq_true e0
    simp only [cond_true, Option.some.injEq, Prod.mk.injEq] at hg; obtain ⟨rfl, rfl⟩ := hg; exact b0
  | false =>
  cases e1 : Nat.beq g 1 with
  | true =>
    rw [e0, e1] at hg; obtain rfl := Nat.eq_of_beq_eq_true e1
    simp only [cond_true, cond_false, Option.some.injEq, Prod.mk.injEq] at hg; obtain ⟨rfl, rfl⟩ := hg; exact b1
  | false =>
  cases e2 : Nat.beq g 2 with
  | true =>
    rw [e0, e1, e2] at hg; obtain rfl := Nat.eq_of_beq_eq_true e2
    simp only [cond_true, cond_false, Option.some.injEq, Prod.mk.injEq] at hg; obtain ⟨rfl, rfl⟩ := hg; exact b2
  | false =>
  cases e3 : Nat.beq g 5 with
  | true =>
    rw [e0, e1, e2, e3] at hg; obtain rfl := Nat.eq_of_beq_eq_true e3
    simp only [cond_true, cond_false, Option.some.injEq, Prod.mk.injEq] at hg; obtain ⟨rfl, rfl⟩ := hg; exact b3
  | false => rw [e0, e1, e2, e3] at hg; cases hg

set_option maxRecDepth 100000 in
theorem door_met (os : Os) (args : Array Value) : laidMetH Tryz.prog Rows.chainHonestRow.laid ((World.doorLaid Tryz.prog 29 os).forCall (fun _ _ => 0) ⟨#[], args, []⟩).memory :=
  laidMetH_of_parts3 (fuel := 8) (laidMet_of_run' 8 (by kernel_rfl) (by kernel_rfl)) (by kernel_rfl) (by kernel_rfl)

set_option maxRecDepth 100000 in
theorem chainHonest_lifted (os : Os) (started : os.Started) (H : Type) (enc : TypeId × Value → H) :
    ReturnsInHanded {} Tryz.checked os 6 .any (fun w args => (Rows.chainHonestSpec.pre enc Tryz.prog Tryz.f6 [] false w args ∧ laidMetH Tryz.prog Rows.chainHonestRow.laid w) ∧ sizedMet enc Tryz.prog Tryz.f6 (OpenSpec.ofChange Rows.chainHonestSpec) false w args)
      (Rows.chainHonestSpec.post enc Tryz.prog Tryz.f6 false true false false) := by
  refine returnsInHanded_of_change_and (C := Tryz.checked) (X := fun w _ => laidMetH Tryz.prog Rows.chainHonestRow.laid w) (fun _ _ _ hh h => h.of_heap hh) own started (by kernel_rfl) Tryz.func6
    (ChangeSpec.witness_shaped (enc := enc) (C := Tryz.checked) (os := os) (X := fun w _ => laidMetH Tryz.prog Rows.chainHonestRow.laid w) false (World.doorLaid Tryz.prog 29 os) #[.agg (Array.replicate 6 (.int .i64 0)), .slice none 0 0, .agg (Array.replicate 5 (.int .i64 0) ++ Array.replicate 32 (.int .u8 0) ++ Array.replicate 4 (.int .i64 0)), .agg #[.int .i64 0, .int .i64 0, .slice none 0 0], .agg #[.int .i64 0, .int .i64 0], .slice none 0 0, .int .u32 0, .agg (Array.replicate 32 (.int .u8 0) ++ #[.int .i64 0, .int .i64 0])] 8 rfl (World.shaped_of_RefB (by kernel_rfl) (by kernel_rfl)) (by kernel_rfl) (by kernel_rfl) (by kernel_rfl) (door_met os _)) ?_
  intro W base args ds gs before hval0 hW hcnd _ hL _
  have hW' := hW
  obtain ⟨p, q, hA0, hV, rfl, hfz, hnd⟩ := hW
  have hA : DataW.TrodAll enc Tryz.prog W 0 (fun _ => true) true Tryz.f6.params.toList args.toList ds p := hA0
  obtain ⟨G, hG, hR, f, hds⟩ := open_all (S := [(true, i64s 6), (false, [.sl (i64s 11)]), (true, coinT), (true, [.int .i64, .int .i64, .sl (i64s 2)]), (true, i64s 2), (false, [.sl holdT]), (false, [.int .u32]), (true, ctxT)]) 0 (by kernel_rfl) hA (fun j t v ht hv => hval0 j t v (by simpa using ht) (by simpa using hv))
  refine (chainHonest_c (basOf (G 0)) (fun i j => intOfAV (islF (G 1 0) i j)) (islN (G 1 0)) (coinOf (G 2)) (intOfAV (G 3 0)) (intOfAV (G 3 1)) (fun i j => intOfAV (islF (G 3 2) i j)) (islN (G 3 2)) (intOfAV (G 4 0)) (intOfAV (G 4 1)) (fun i => holOf (islF (G 5 0) i)) (islN (G 5 0)) (intOfAV (G 6 0)) (cxtOf (G 7)) (basOf_w (hG 0 _ rfl)) (hold_len (hG 5 _ rfl 0 _ rfl)) (cell_u32 (hG 6 _ rfl 0 _ rfl)) (coin_by (hG 2 _ rfl)) (hold_by (hG 5 _ rfl 0 _ rfl)) (cxt_by (hG 7 _ rfl))).calls (globs hL) hR (fun W2 hB => ⟨_, rfl, ?_⟩)
  exact post_law (tb := 4) laidOut rfl (by kernel_rfl) (by kernel_rfl) (by kernel_rfl) hW' hB (by rw [hds]; rfl)

theorem and_tt {a b : Bool} (h : a = true) (k : b = true) : (a && b) = true := by rw [h, k]; rfl

set_option maxHeartbeats 4000000 in
theorem chainHonest_facts : joinedFacts Tryz.pinned.checked.prog 6 Tryz.f6 Rows.chainHonestSpec Rows.chainHonestRow = true := by
  unfold joinedFacts
  refine and_tt (and_tt (and_tt (and_tt (and_tt (and_tt (and_tt (and_tt (and_tt (and_tt (and_tt (and_tt (and_tt (and_tt (and_tt (and_tt (and_tt (and_tt (and_tt (and_tt (and_tt (and_tt (and_tt (and_tt (and_tt (and_tt (and_tt (and_tt (and_tt (and_tt (and_tt ?_ ?_) ?_) ?_) ?_) ?_) ?_) ?_) ?_) ?_) ?_) ?_) ?_) ?_) ?_) ?_) ?_) ?_) ?_) ?_) ?_) ?_) ?_) ?_) ?_) ?_) ?_) ?_) ?_) ?_) ?_) ?_
  all_goals decide +kernel

theorem chainHonest_row : Rows.ChainHonestSaid :=
  OpenClaim.holds_of_wide 6 Tryz.f6 rfl rfl rfl rfl rfl rfl rfl ⟨rfl, rfl, rfl, rfl, rfl⟩ rfl rfl rfl rfl rfl (by kernel_rfl) Tryz.func6 chainHonest_facts
    (of_decide_eq_true (by kernel_rfl)) (by unfold Func.isWrapper; first | (rw [if_pos (by decide +kernel)]; kernel_rfl) | (rw [if_neg (by decide +kernel)]; exact ⟨rfl, rfl⟩))
    (fun os started H enc _ => chainHonest_lifted os started H enc)

theorem chainHonest_holds : Rows.ChainHonestCardSaid :=
  Claim7.holds_tied_plain_at .later [] [.data, .data, .data, .data] true _ false
    chainHonest_row (fun _ h => by cases h) (by kernel_rfl) (fun _ h => by cases h) chainHonest_row_tie rfl ⟨rfl, rfl⟩ (by kernel_rfl) rfl
    (fun f fn hf hfn => by
      obtain rfl : f = 6 := Option.some.inj ((show Tryz.prog.funcNamed "specie/specielaw35.ChainHonest" = some 6 by kernel_rfl).symm.trans hf) |>.symm
      obtain rfl : fn = Tryz.f6 := (Option.some.inj (Tryz.func6.symm.trans hfn)).symm
      exact ⟨by kernel_rfl, fun j t ht => by
        have hm : t ∈ Tryz.f6.params.toList := by simpa using Array.mem_of_getElem? ht
        have hall : (Tryz.f6.params.toList.all fun u => !Tryz.prog.wantsStandIn u) = true := by kernel_rfl
        exact (show Tryz.prog.wantsStandIn t = false by simpa using List.all_eq_true.1 hall t hm)⟩)
    (by kernel_rfl)

end Go.Proofs.YtolcfdcoidpieaaGreatDoor
