/- ReportTotals returns true for every input, and the input reads behind the call as it read before; the listed package-level variables are tied to the program's text. -/
import Derived.Test.YtbmdmoknnlhdoaaGreatDoorRows
import Derived.Test.YtbmdmoknnlhdoaaGreatDoorTie
import Derived.Test.YtbmdmoknnlhdoaaGreatDoorCards
import Derived.Test.YtbmdmoknnlhdoaaGreatDoorM6
import Derived.Test.YtbmdmoknnlhdoaaGreatDoorM3
import Derived.ProofKit
import Derived.LaidMore
import Derived.Lay
import Derived.OpenShut
import Derived.Stop.Joined
import Derived.SevenTiedAt
namespace Go.Proofs.YtbmdmoknnlhdoaaGreatDoor
open Go.ChangeShapes Go.WideShapes Go.ChangeAt Go.RowKit Go.Am Go.Sp N

theorem own : ownKnob Tryz.prog.godebug = none := by kernel_rfl
theorem laidOut : laidOutB Tryz.prog = true := by kernel_rfl

set_option maxRecDepth 100000 in
theorem globs {w : World} (h : laidMetH Tryz.prog Rows.reportTotalsRow.laid w) (hs : w.ShapedOpen Tryz.prog) : ∃ m : GP, GlobB (gl1 m) noB w := by
  have hp : (Rows.reportTotalsRow.laid.all fun x => x.2.handleName?.isNone) = true := by kernel_rfl
  have b0 := glob_strs (β := noB) h hp 6 "specie/report.words" (n := 8) (F := fun j => stepW.getD j []) (by kernel_rfl) (g := 0) (by kernel_rfl) (by kernel_rfl) (by decide) (noB_free _)
  have b1 := glob_ints (β := noB) h hp 2 "internal/strconv.uint64pow10" (n := 20) (k := .u64) (F := fun j => Lib.pow10Tab.getD j 0) (by kernel_rfl) (g := 7) (by kernel_rfl) (by kernel_rfl) (by decide) (noB_free _)
  obtain ⟨t1, b2⟩ := glob_iface (β := noB) h hp 5 "strconv.ErrSyntax" (g := 3) rfl (by kernel_rfl) (by kernel_rfl) (noB_free _)
  obtain ⟨t2, b3⟩ := glob_iface (β := noB) h hp 4 "strconv.ErrRange" (g := 4) rfl (by kernel_rfl) (by kernel_rfl) (noB_free _)
  obtain ⟨mx, b4⟩ := glob_open (β := noB) hs (g := 2) (t := 3) (k := .i64) (of_decide_eq_true (by kernel_rfl)) (by kernel_rfl) (by kernel_rfl) (by kernel_rfl) (by kernel_rfl) (noB_free _)
  refine ⟨⟨mx, t1, t2⟩, fun g m f hg => ?_⟩
  unfold gl1 gl0 at hg
  cases e0 : Nat.beq g 0 with
  | true =>
    rw [e0] at hg; obtain rfl := Nat.eq_of_beq_eq_true e0
    simp only [cond_true, Option.some.injEq, Prod.mk.injEq] at hg; obtain ⟨rfl, rfl⟩ := hg; exact b0
  | false =>
  cases e1 : Nat.beq g 2 with
  | true =>
    rw [e0, e1] at hg; obtain rfl := Nat.eq_of_beq_eq_true e1
    simp only [cond_true, cond_false, Option.some.injEq, Prod.mk.injEq] at hg; obtain ⟨rfl, rfl⟩ := hg; exact b4
  | false =>
  cases e2 : Nat.beq g 7 with
  | true =>
    rw [e0, e1, e2] at hg; obtain rfl := Nat.eq_of_beq_eq_true e2
    simp only [cond_true, cond_false, Option.some.injEq, Prod.mk.injEq] at hg; obtain ⟨rfl, rfl⟩ := hg; exact b1
  | false =>
  cases e3 : Nat.beq g 3 with
  | true =>
    rw [e0, e1, e2, e3] at hg; obtain rfl := Nat.eq_of_beq_eq_true e3
    simp only [cond_true, cond_false, Option.some.injEq, Prod.mk.injEq] at hg; obtain ⟨rfl, rfl⟩ := hg; exact b2
  | false =>
  cases e4 : Nat.beq g 4 with
  | true =>
    rw [e0, e1, e2, e3, e4] at hg; obtain rfl := Nat.eq_of_beq_eq_true e4
    simp only [cond_true, cond_false, Option.some.injEq, Prod.mk.injEq] at hg; obtain ⟨rfl, rfl⟩ := hg; exact b3
  | false => rw [e0, e1, e2, e3, e4] at hg; cases hg

set_option maxRecDepth 100000 in
theorem reportTotals_lifted (os : Os) (started : os.Started) (H : Type) (enc : TypeId × Value → H) :
    ReturnsInHanded {} Tryz.checked os 4 .any (fun w args => (Rows.reportTotalsSpec.pre enc Tryz.prog Tryz.f4 [] false w args ∧ laidMetH Tryz.prog Rows.reportTotalsRow.laid w) ∧ sizedMet enc Tryz.prog Tryz.f4 (OpenSpec.ofChange Rows.reportTotalsSpec) false w args)
      (Rows.reportTotalsSpec.post enc Tryz.prog Tryz.f4 false true false false) := by
  refine returns_shaped (C := Tryz.checked) (X := fun w _ => laidMetH Tryz.prog Rows.reportTotalsRow.laid w) (fun _ _ _ hh h => h.of_heap hh) own started (by kernel_rfl) Tryz.func4
    (ChangeSpec.witness_shaped (enc := enc) (C := Tryz.checked) (os := os) (X := fun w _ => laidMetH Tryz.prog Rows.reportTotalsRow.laid w) false (World.laidAll Tryz.prog os Rows.reportTotalsRow.laid) #[.slice none 0 0] 8 (World.laidAll_os _ _ _) (World.shaped_of_ZipB (by kernel_rfl) (by kernel_rfl)) (by kernel_rfl) (by kernel_rfl) (by kernel_rfl)
      (by rw [MakeChecks.laidMetH_plain _ _ _ (by kernel_rfl)]; exact laidMet_laidAll _ (by kernel_rfl) (by kernel_rfl))) ?_
  intro W base args ds gs before hval0 hW hcnd _ hL hsh _
  have hW' := hW
  obtain ⟨p, q, hA0, hV, rfl, hfz, hnd⟩ := hW
  have hA : DataW.TrodAll enc Tryz.prog W 0 (fun _ => true) true Tryz.f4.params.toList args.toList ds p := hA0
  obtain ⟨G, hG, hR, f, hds⟩ := open_all (S := [(false, [.sl (i64s 7)])]) 0 (by kernel_rfl) hA (fun j t v ht hv => hval0 j t v (by simpa using ht) (by simpa using hv))
  obtain ⟨m, hm⟩ := globs hL hsh
  refine ((reportTotals_a m (islN (G 0 0)) (fun i => supOf (islF (G 0 0) i)) (sl_len (hG 0 _ rfl 0 _ rfl))).via (args := [.isl 7 (islN (G 0 0)) fun i j => .int .i64 (intOfAV (islF (G 0 0) i j))]) ⟨sups_e, trivial⟩).calls hm hR (fun W2 hB => ⟨_, rfl, ?_⟩)
  exact post_law (tb := 4) laidOut rfl (by kernel_rfl) (by kernel_rfl) (by kernel_rfl) hW' hB (by rw [hds]; rfl)

theorem and_tt {a b : Bool} (h : a = true) (k : b = true) : (a && b) = true := by rw [h, k]; rfl

set_option maxHeartbeats 4000000 in
theorem reportTotals_facts : joinedFacts Tryz.pinned.checked.prog 4 Tryz.f4 Rows.reportTotalsSpec Rows.reportTotalsRow = true := by
  unfold joinedFacts
  refine and_tt (and_tt (and_tt (and_tt (and_tt (and_tt (and_tt (and_tt (and_tt (and_tt (and_tt (and_tt (and_tt (and_tt (and_tt (and_tt (and_tt (and_tt (and_tt (and_tt (and_tt (and_tt (and_tt (and_tt (and_tt (and_tt (and_tt (and_tt (and_tt (and_tt (and_tt ?_ ?_) ?_) ?_) ?_) ?_) ?_) ?_) ?_) ?_) ?_) ?_) ?_) ?_) ?_) ?_) ?_) ?_) ?_) ?_) ?_) ?_) ?_) ?_) ?_) ?_) ?_) ?_) ?_) ?_) ?_) ?_
  all_goals decide +kernel

theorem reportTotals_row : Rows.ReportTotalsSaid :=
  OpenClaim.holds_of_wide 4 Tryz.f4 rfl rfl rfl rfl rfl rfl rfl ⟨rfl, rfl, rfl, rfl, rfl⟩ rfl rfl rfl rfl rfl (by kernel_rfl) Tryz.func4 reportTotals_facts
    (of_decide_eq_true (by kernel_rfl)) (by unfold Func.isWrapper; first | (rw [if_pos (by decide +kernel)]; kernel_rfl) | (rw [if_neg (by decide +kernel)]; exact ⟨rfl, rfl⟩))
    (fun os started H enc _ => reportTotals_lifted os started H enc)

theorem reportTotals_holds : Rows.ReportTotalsCardSaid :=
  Claim7.holds_tied_plain_at .later [] [.data, .data, .data, .data, .sentinel, .sentinel, .data, .pinned] true _ true
    reportTotals_row (fun _ h => by cases h) (by kernel_rfl) (fun _ h => by cases h) reportTotals_row_tie rfl ⟨rfl, rfl⟩ (by kernel_rfl) rfl
    (fun f fn hf hfn => by
      obtain rfl : f = 4 := Option.some.inj ((show Tryz.prog.funcNamed "specie/specielaw56.ReportTotals" = some 4 by kernel_rfl).symm.trans hf) |>.symm
      obtain rfl : fn = Tryz.f4 := (Option.some.inj (Tryz.func4.symm.trans hfn)).symm
      exact ⟨by kernel_rfl, fun j t ht => by
        have hm : t ∈ Tryz.f4.params.toList := by simpa using Array.mem_of_getElem? ht
        have hall : (Tryz.f4.params.toList.all fun u => !Tryz.prog.wantsStandIn u) = true := by kernel_rfl
        exact (show Tryz.prog.wantsStandIn t = false by simpa using List.all_eq_true.1 hall t hm)⟩)
    (by kernel_rfl)

end Go.Proofs.YtbmdmoknnlhdoaaGreatDoor
