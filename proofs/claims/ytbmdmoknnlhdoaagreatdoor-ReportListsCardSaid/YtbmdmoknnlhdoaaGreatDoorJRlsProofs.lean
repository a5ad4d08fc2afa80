/- ReportLists returns true for every input, and the input reads behind the call as it read before; the listed package-level variables are tied to the program's text. -/
import Derived.Test.YtbmdmoknnlhdoaaGreatDoorRows
import Derived.Test.YtbmdmoknnlhdoaaGreatDoorTie
import Derived.Test.YtbmdmoknnlhdoaaGreatDoorCards
import Derived.Test.YtbmdmoknnlhdoaaGreatDoorM10
import Derived.Test.YtbmdmoknnlhdoaaGreatDoorM3
import Derived.ProofKit
import Derived.LaidMore
import Derived.Lay
import Derived.OpenShut
import Derived.Stop.Joined
import Derived.SevenTiedAt
namespace Go.Proofs.YtbmdmoknnlhdoaaGreatDoor
open Go.ChangeShapes Go.WideShapes Go.ChangeAt Go.RowKit Go.Am Go.Sp O

theorem own : ownKnob Tryz.prog.godebug = none := by kernel_rfl
theorem laidOut : laidOutB Tryz.prog = true := by kernel_rfl

set_option maxRecDepth 100000 in
theorem globs {w : World} (h : laidMetH Tryz.prog Rows.reportListsRow.laid w) : GlobB (O.gl0 ()) noB w := by
  have hp : (Rows.reportListsRow.laid.all fun x => x.2.handleName?.isNone) = true := by kernel_rfl
  have a2 := glob_ints (β := noB) h hp 4 "specie/digest.start" (n := 8) (k := .u32) (F := stF) (by kernel_rfl) (g := 6) (by kernel_rfl) (by kernel_rfl) (by decide) (noB_free _)
  have a3 := glob_ints (β := noB) h hp 3 "specie/digest.constants" (n := 64) (k := .u32) (F := kF) (by kernel_rfl) (g := 8) (by kernel_rfl) (by kernel_rfl) (by decide) (noB_free _)
  have b0 := glob_strs (β := noB) h hp 5 "specie/report.words" (n := 8) (F := fun j => O.stepW.getD j []) (by kernel_rfl) (g := 0) (by kernel_rfl) (by kernel_rfl) (by decide) (noB_free _)
  have b1 := glob_ints (β := noB) h hp 2 "internal/strconv.uint64pow10" (n := 20) (k := .u64) (F := fun j => Lib.pow10Tab.getD j 0) (by kernel_rfl) (g := 7) (by kernel_rfl) (by kernel_rfl) (by decide) (noB_free _)
  intro g m f hg
  unfold O.gl0 Z.glU at hg
  cases hj : Z.glJ g with
  | some y =>
    rw [hj] at hg
    have hg : y = (m, f) := Option.some.inj hg
    subst hg
    rcases Z.glJ_mem (by rw [hj]; simp) with rfl | rfl
    · obtain ⟨rfl, rfl⟩ := Prod.mk.inj (Option.some.inj (hj.symm.trans (show Z.glJ 6 = some (8, fun j => .int .u32 (stF j)) from rfl))); exact a2
    · obtain ⟨rfl, rfl⟩ := Prod.mk.inj (Option.some.inj (hj.symm.trans (show Z.glJ 8 = some (64, fun j => .int .u32 (kF j)) from rfl))); exact a3
  | none =>
  rw [hj] at hg
  simp only at hg
  unfold O.glP at hg
  cases e0 : Nat.beq g 0 with
  | true =>
    rw [e0] at hg; obtain rfl := Nat.eq_of_beq_eq_true e0
    simp only [cond_true, Option.some.injEq, Prod.mk.injEq] at hg; obtain ⟨rfl, rfl⟩ := hg; exact b0
  | false =>
  cases e1 : Nat.beq g 7 with
  | true =>
    rw [e0, e1] at hg; obtain rfl := Nat.eq_of_beq_eq_true e1
    simp only [cond_true, cond_false, Option.some.injEq, Prod.mk.injEq] at hg; obtain ⟨rfl, rfl⟩ := hg; exact b1
  | false => rw [e0, e1] at hg; cases hg

set_option maxRecDepth 100000 in
theorem reportLists_lifted (os : Os) (started : os.Started) (H : Type) (enc : TypeId × Value → H) :
    ReturnsInHanded {} Tryz.checked os 3 .any (fun w args => (Rows.reportListsSpec.pre enc Tryz.prog Tryz.f3 [] false w args ∧ laidMetH Tryz.prog Rows.reportListsRow.laid w) ∧ sizedMet enc Tryz.prog Tryz.f3 (OpenSpec.ofChange Rows.reportListsSpec) false w args)
      (Rows.reportListsSpec.post enc Tryz.prog Tryz.f3 false true false false) := by
  refine returns_shaped (C := Tryz.checked) (X := fun w _ => laidMetH Tryz.prog Rows.reportListsRow.laid w) (fun _ _ _ hh h => h.of_heap hh) own started (by kernel_rfl) Tryz.func3
    (ChangeSpec.witness_shaped (enc := enc) (C := Tryz.checked) (os := os) (X := fun w _ => laidMetH Tryz.prog Rows.reportListsRow.laid w) false (World.laidAll Tryz.prog os Rows.reportListsRow.laid) #[.slice none 0 0, .agg #[.slice none 0 0, .slice none 0 0], .slice none 0 0] 8 (World.laidAll_os _ _ _) (World.shaped_of_ZipB (by kernel_rfl) (by kernel_rfl)) (by kernel_rfl) (by kernel_rfl) (by kernel_rfl)
      (by rw [MakeChecks.laidMetH_plain _ _ _ (by kernel_rfl)]; exact laidMet_laidAll _ (by kernel_rfl) (by kernel_rfl))) ?_
  intro W base args ds gs before hval0 hW hcnd _ hL hsh _
  have hW' := hW
  obtain ⟨p, q, hA0, hV, rfl, hfz, hnd⟩ := hW
  have hA : DataW.TrodAll enc Tryz.prog W 0 (fun _ => true) true Tryz.f3.params.toList args.toList ds p := hA0
  obtain ⟨G, hG, hR, f, hds⟩ := open_all (S := [(false, [.sl (i64s 7)]), (true, trailT), (false, [.sl Go.Sp.stepT])]) 0 (by kernel_rfl) hA (fun j t v ht hv => hval0 j t v (by simpa using ht) (by simpa using hv))
  refine ((O.reportLists_c () (islN (G 0 0)) (fun i => supOf (islF (G 0 0) i)) (trlOf (G 1)) (islN (G 2 0)) (fun i => stpOf (islF (G 2 0) i)) (sl_len (hG 0 _ rfl 0 _ rfl)) (trail_n (hG 1 _ rfl)) (trail_np (hG 1 _ rfl)) (sl_len (hG 2 _ rfl 0 _ rfl)) (trail_key (hG 1 _ rfl)) (trail_by (hG 1 _ rfl)) (step_R (hG 2 _ rfl 0 _ rfl))).via (args := [.isl 7 (islN (G 0 0)) fun i j => .int .i64 (intOfAV (islF (G 0 0) i j)), .agg (canonRow trailT (G 1) 0), stpA (islN (G 2 0)) fun i => stpOf (islF (G 2 0) i)]) ⟨sups_e, trail_e, Ent.refl _, trivial⟩).calls (globs hL) hR (fun W2 hB => ⟨_, rfl, ?_⟩)
  exact post_law (tb := 4) laidOut rfl (by kernel_rfl) (by kernel_rfl) (by kernel_rfl) hW' hB (by rw [hds]; rfl)

theorem and_tt {a b : Bool} (h : a = true) (k : b = true) : (a && b) = true := by rw [h, k]; rfl

set_option maxHeartbeats 4000000 in
theorem reportLists_facts : joinedFacts Tryz.pinned.checked.prog 3 Tryz.f3 Rows.reportListsSpec Rows.reportListsRow = true := by
  unfold joinedFacts
  refine and_tt (and_tt (and_tt (and_tt (and_tt (and_tt (and_tt (and_tt (and_tt (and_tt (and_tt (and_tt (and_tt (and_tt (and_tt (and_tt (and_tt (and_tt (and_tt (and_tt (and_tt (and_tt (and_tt (and_tt (and_tt (and_tt (and_tt (and_tt (and_tt (and_tt (and_tt ?_ ?_) ?_) ?_) ?_) ?_) ?_) ?_) ?_) ?_) ?_) ?_) ?_) ?_) ?_) ?_) ?_) ?_) ?_) ?_) ?_) ?_) ?_) ?_) ?_) ?_) ?_) ?_) ?_) ?_) ?_) ?_
  all_goals decide +kernel

theorem reportLists_row : Rows.ReportListsSaid :=
  OpenClaim.holds_of_wide 3 Tryz.f3 rfl rfl rfl rfl rfl rfl rfl ⟨rfl, rfl, rfl, rfl, rfl⟩ rfl rfl rfl rfl rfl (by kernel_rfl) Tryz.func3 reportLists_facts
    (of_decide_eq_true (by kernel_rfl)) (by unfold Func.isWrapper; first | (rw [if_pos (by decide +kernel)]; kernel_rfl) | (rw [if_neg (by decide +kernel)]; exact ⟨rfl, rfl⟩))
    (fun os started H enc _ => reportLists_lifted os started H enc)

theorem reportLists_holds : Rows.ReportListsCardSaid :=
  Claim7.holds_tied_plain_at .later [] [.data, .data, .data, .data, .data, .data] true _ true
    reportLists_row (fun _ h => by cases h) (by kernel_rfl) (fun _ h => by cases h) reportLists_row_tie rfl ⟨rfl, rfl⟩ (by kernel_rfl) rfl
    (fun f fn hf hfn => by
      obtain rfl : f = 3 := Option.some.inj ((show Tryz.prog.funcNamed "specie/specielaw56.ReportLists" = some 3 by kernel_rfl).symm.trans hf) |>.symm
      obtain rfl : fn = Tryz.f3 := (Option.some.inj (Tryz.func3.symm.trans hfn)).symm
      exact ⟨by kernel_rfl, fun j t ht => by
        have hm : t ∈ Tryz.f3.params.toList := by simpa using Array.mem_of_getElem? ht
        have hall : (Tryz.f3.params.toList.all fun u => !Tryz.prog.wantsStandIn u) = true := by kernel_rfl
        exact (show Tryz.prog.wantsStandIn t = false by simpa using List.all_eq_true.1 hall t hm)⟩)
    (by kernel_rfl)

end Go.Proofs.YtbmdmoknnlhdoaaGreatDoor
