/- ConsoleHelp returns true for every input, and the input reads behind the call as it read before; the listed package-level variables are tied to the program's text. -/
import Derived.Test.YtbmdmoknnlhdoaaDoorRows
import Derived.Test.YtbmdmoknnlhdoaaDoorTie
import Derived.Test.YtbmdmoknnlhdoaaDoorCards
import Derived.Test.YtbmdmoknnlhdoaaDoorM5
import Derived.Test.YtbmdmoknnlhdoaaDoorM3
import Derived.ProofKit
import Derived.LaidMore
import Derived.Lay
import Derived.OpenShut
import Derived.Stop.Joined
import Derived.SevenTiedAt
namespace Go.Proofs.YtbmdmoknnlhdoaaDoor
open Go.ChangeShapes Go.WideShapes Go.ChangeAt Go.RowKit Go.Am Go.Sp

theorem own : ownKnob Tryd.prog.godebug = none := by kernel_rfl
theorem laidOut : laidOutB Tryd.prog = true := by kernel_rfl

set_option maxRecDepth 100000 in
theorem globs {w : World} (h : laidMetH Tryd.prog Rows.consoleHelpRow.laid w) (hs : w.ShapedOpen Tryd.prog) : ∃ m : GP, GlobB (gl0 m) noB w := by
  have hp : (Rows.consoleHelpRow.laid.all fun x => x.2.handleName?.isNone) = true := by kernel_rfl
  have b0 := glob_ints (β := noB) h hp 7 "strings.asciiSpace" (n := 256) (k := .u8) (F := fun j => Lib.asciiSpaceTab.getD j 0) (by kernel_rfl) (g := 0) (by kernel_rfl) (by kernel_rfl) (by decide) (noB_free _)
  have b1 := glob_ints (β := noB) h hp 2 "internal/strconv.uint64pow10" (n := 20) (k := .u64) (F := fun j => Lib.pow10Tab.getD j 0) (by kernel_rfl) (g := 5) (by kernel_rfl) (by kernel_rfl) (by decide) (noB_free _)
  obtain ⟨t1, b2⟩ := glob_iface (β := noB) h hp 5 "strconv.ErrSyntax" (g := 6) rfl (by kernel_rfl) (by kernel_rfl) (noB_free _)
  obtain ⟨t2, b3⟩ := glob_iface (β := noB) h hp 4 "strconv.ErrRange" (g := 7) rfl (by kernel_rfl) (by kernel_rfl) (noB_free _)
  obtain ⟨mx, b4⟩ := glob_open (β := noB) hs (g := 1) (t := 3) (k := .i64) (of_decide_eq_true (by kernel_rfl)) (by kernel_rfl) (by kernel_rfl) (by kernel_rfl) (by kernel_rfl) (noB_free _)
  refine ⟨⟨mx, t1, t2⟩, fun g m f hg => ?_⟩
  unfold gl0 at hg
  cases e0 : Nat.beq g 0 with
  | true =>
    rw [e0] at hg; obtain rfl := Nat.eq_of_beq_eq_true e0
    simp only [cond_true, Option.some.injEq, Prod.mk.injEq] at hg; obtain ⟨rfl, rfl⟩ := hg; exact b0
  | false =>
  cases e1 : Nat.beq g 1 with
  | true =>
    rw [e0, e1] at hg; obtain rfl := Nat.eq_of_beq_eq_true e1
    simp only [cond_true, cond_false, Option.some.injEq, Prod.mk.injEq] at hg; obtain ⟨rfl, rfl⟩ := hg; exact b4
  | false =>
  cases e2 : Nat.beq g 5 with
  | true =>
    rw [e0, e1, e2] at hg; obtain rfl := Nat.eq_of_beq_eq_true e2
    simp only [cond_true, cond_false, Option.some.injEq, Prod.mk.injEq] at hg; obtain ⟨rfl, rfl⟩ := hg; exact b1
  | false =>
  cases e3 : Nat.beq g 6 with
  | true =>
    rw [e0, e1, e2, e3] at hg; obtain rfl := Nat.eq_of_beq_eq_true e3
    simp only [cond_true, cond_false, Option.some.injEq, Prod.mk.injEq] at hg; obtain ⟨rfl, rfl⟩ := hg; exact b2
  | false =>
  cases e4 : Nat.beq g 7 with
  | true =>
    rw [e0, e1, e2, e3, e4] at hg; obtain rfl := Nat.eq_of_beq_eq_true e4
    simp only [cond_true, cond_false, Option.some.injEq, Prod.mk.injEq] at hg; obtain ⟨rfl, rfl⟩ := hg; exact b3
  | false => rw [e0, e1, e2, e3, e4] at hg; cases hg

set_option maxRecDepth 100000 in
theorem consoleHelp_lifted (os : Os) (started : os.Started) (H : Type) (enc : TypeId × Value → H) :
    ReturnsInHanded {} Tryd.checked os 4 .any (fun w args => (Rows.consoleHelpSpec.pre enc Tryd.prog Tryd.f4 [] false w args ∧ laidMetH Tryd.prog Rows.consoleHelpRow.laid w) ∧ sizedMet enc Tryd.prog Tryd.f4 (OpenSpec.ofChange Rows.consoleHelpSpec) false w args)
      (Rows.consoleHelpSpec.post enc Tryd.prog Tryd.f4 false true false false) := by
  refine returns_shaped (C := Tryd.checked) (X := fun w _ => laidMetH Tryd.prog Rows.consoleHelpRow.laid w) (fun _ _ _ hh h => h.of_heap hh) own started (by kernel_rfl) Tryd.func4
    (ChangeSpec.witness_shaped (enc := enc) (C := Tryd.checked) (os := os) (X := fun w _ => laidMetH Tryd.prog Rows.consoleHelpRow.laid w) false (World.laidAll Tryd.prog os Rows.consoleHelpRow.laid) #[.int .u32 0, .int .u32 0, .int .u32 0] 8 (World.laidAll_os _ _ _) (World.shaped_of_ZipB (by kernel_rfl) (by kernel_rfl)) (by kernel_rfl) (by kernel_rfl) (by kernel_rfl)
      (by rw [MakeChecks.laidMetH_plain _ _ _ (by kernel_rfl)]; exact laidMet_laidAll _ (by kernel_rfl) (by kernel_rfl))) ?_
  intro W base args ds gs before hval0 hW hcnd _ hL hsh _
  have hW' := hW
  obtain ⟨p, q, hA0, hV, rfl, hfz, hnd⟩ := hW
  have hA : DataW.TrodAll enc Tryd.prog W 0 (fun _ => true) true Tryd.f4.params.toList args.toList ds p := hA0
  obtain ⟨G, hG, hR, f, hds⟩ := open_all (S := [(false, [.int .u32]), (false, [.int .u32]), (false, [.int .u32])]) 0 (by kernel_rfl) hA (fun j t v ht hv => hval0 j t v (by simpa using ht) (by simpa using hv))
  obtain ⟨m, hm⟩ := globs hL hsh
  refine (consoleHelp_c m (intOfAV (G 0 0)) (intOfAV (G 1 0)) (intOfAV (G 2 0)) (cell_U (hG 0 _ rfl 0 _ rfl)) (cell_U (hG 1 _ rfl 0 _ rfl)) (cell_U (hG 2 _ rfl 0 _ rfl))).calls hm hR (fun W2 hB => ⟨_, rfl, ?_⟩)
  exact post_law (tb := 4) laidOut rfl (by kernel_rfl) (by kernel_rfl) (by kernel_rfl) hW' hB (by rw [hds]; rfl)

theorem and_tt {a b : Bool} (h : a = true) (k : b = true) : (a && b) = true := by rw [h, k]; rfl

set_option maxHeartbeats 4000000 in
theorem consoleHelp_facts : joinedFacts Tryd.pinned.checked.prog 4 Tryd.f4 Rows.consoleHelpSpec Rows.consoleHelpRow = true := by
  unfold joinedFacts
  refine and_tt (and_tt (and_tt (and_tt (and_tt (and_tt (and_tt (and_tt (and_tt (and_tt (and_tt (and_tt (and_tt (and_tt (and_tt (and_tt (and_tt (and_tt (and_tt (and_tt (and_tt (and_tt (and_tt (and_tt (and_tt (and_tt (and_tt (and_tt (and_tt (and_tt (and_tt ?_ ?_) ?_) ?_) ?_) ?_) ?_) ?_) ?_) ?_) ?_) ?_) ?_) ?_) ?_) ?_) ?_) ?_) ?_) ?_) ?_) ?_) ?_) ?_) ?_) ?_) ?_) ?_) ?_) ?_) ?_) ?_
  all_goals decide +kernel

theorem consoleHelp_row : Rows.ConsoleHelpSaid :=
  OpenClaim.holds_of_wide 4 Tryd.f4 rfl rfl rfl rfl rfl rfl rfl ⟨rfl, rfl, rfl, rfl, rfl⟩ rfl rfl rfl rfl rfl (by kernel_rfl) Tryd.func4 consoleHelp_facts
    (of_decide_eq_true (by kernel_rfl)) (by unfold Func.isWrapper; first | (rw [if_pos (by decide +kernel)]; kernel_rfl) | (rw [if_neg (by decide +kernel)]; exact ⟨rfl, rfl⟩))
    (fun os started H enc _ => consoleHelp_lifted os started H enc)

theorem consoleHelp_holds : Rows.ConsoleHelpCardSaid :=
  Claim7.holds_tied_plain_at .later [] [.data, .data, .data, .data, .sentinel, .sentinel, .listed, .data, .pinned] true _ true
    consoleHelp_row (fun _ h => by cases h) (by kernel_rfl) (fun _ h => by cases h) consoleHelp_row_tie rfl ⟨rfl, rfl⟩ (by kernel_rfl) rfl
    (fun f fn hf hfn => by
      obtain rfl : f = 4 := Option.some.inj ((show Tryd.prog.funcNamed "specie/specielaw55.ConsoleHelp" = some 4 by kernel_rfl).symm.trans hf) |>.symm
      obtain rfl : fn = Tryd.f4 := (Option.some.inj (Tryd.func4.symm.trans hfn)).symm
      exact ⟨by kernel_rfl, fun j t ht => by
        have hm : t ∈ Tryd.f4.params.toList := by simpa using Array.mem_of_getElem? ht
        have hall : (Tryd.f4.params.toList.all fun u => !Tryd.prog.wantsStandIn u) = true := by kernel_rfl
        exact (show Tryd.prog.wantsStandIn t = false by simpa using List.all_eq_true.1 hall t hm)⟩)
    (by kernel_rfl)

end Go.Proofs.YtbmdmoknnlhdoaaDoor
