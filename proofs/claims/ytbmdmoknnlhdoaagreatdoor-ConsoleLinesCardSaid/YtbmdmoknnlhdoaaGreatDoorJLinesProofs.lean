/- ConsoleLines returns true for every input, and the input reads behind the call as it read before; the listed package-level variables are tied to the program's text. -/
import Derived.Test.YtbmdmoknnlhdoaaGreatDoorRows
import Derived.Test.YtbmdmoknnlhdoaaGreatDoorTie
import Derived.Test.YtbmdmoknnlhdoaaGreatDoorCards
import Derived.Test.YtbmdmoknnlhdoaaGreatDoorM8
import Derived.Test.YtbmdmoknnlhdoaaGreatDoorM3
import Derived.ProofKit
import Derived.LaidMore
import Derived.Lay
import Derived.OpenShut
import Derived.Stop.Joined
import Derived.SevenTiedAt
namespace Go.Proofs.YtbmdmoknnlhdoaaGreatDoor
open Go.ChangeShapes Go.WideShapes Go.ChangeAt Go.RowKit Go.Am Go.Sp L

theorem own : ownKnob Tryz.prog.godebug = none := by kernel_rfl
theorem laidOut : laidOutB Tryz.prog = true := by kernel_rfl

set_option maxRecDepth 100000 in
theorem globs {w : World} (h : laidMetH Tryz.prog Rows.consoleLinesRow.laid w) (hs : w.ShapedOpen Tryz.prog) : ∃ m : L.GP, GlobB (L.gl2 m) noB w := by
  have hp : (Rows.consoleLinesRow.laid.all fun x => x.2.handleName?.isNone) = true := by kernel_rfl
  have a0 := glob_ints (β := noB) h hp 4 "specie/prime.bases" (n := 12) (k := .u64) (F := bsF) (by kernel_rfl) (g := 11) (by kernel_rfl) (by kernel_rfl) (by decide) (noB_free _)
  have a1 := glob_ints (β := noB) h hp 1 "math/bits.deBruijn64tab" (n := 64) (k := .u8) (F := dbF) (by kernel_rfl) (g := 13) (by kernel_rfl) (by kernel_rfl) (by decide) (noB_free _)
  have a2 := glob_ints (β := noB) h hp 10 "specie/digest.start" (n := 8) (k := .u32) (F := stF) (by kernel_rfl) (g := 6) (by kernel_rfl) (by kernel_rfl) (by decide) (noB_free _)
  have a3 := glob_ints (β := noB) h hp 9 "specie/digest.constants" (n := 64) (k := .u32) (F := kF) (by kernel_rfl) (g := 8) (by kernel_rfl) (by kernel_rfl) (by decide) (noB_free _)
  have b0 := glob_ints (β := noB) h hp 8 "strings.asciiSpace" (n := 256) (k := .u8) (F := fun j => Lib.asciiSpaceTab.getD j 0) (by kernel_rfl) (g := 1) (by kernel_rfl) (by kernel_rfl) (by decide) (noB_free _)
  have b1 := glob_ints (β := noB) h hp 2 "internal/strconv.uint64pow10" (n := 20) (k := .u64) (F := fun j => Lib.pow10Tab.getD j 0) (by kernel_rfl) (g := 7) (by kernel_rfl) (by kernel_rfl) (by decide) (noB_free _)
  obtain ⟨t1, b2⟩ := glob_iface (β := noB) h hp 6 "strconv.ErrSyntax" (g := 3) rfl (by kernel_rfl) (by kernel_rfl) (noB_free _)
  obtain ⟨t2, b3⟩ := glob_iface (β := noB) h hp 5 "strconv.ErrRange" (g := 4) rfl (by kernel_rfl) (by kernel_rfl) (noB_free _)
  obtain ⟨mx, b4⟩ := glob_open (β := noB) hs (g := 2) (t := 3) (k := .i64) (of_decide_eq_true (by kernel_rfl)) (by kernel_rfl) (by kernel_rfl) (by kernel_rfl) (by kernel_rfl) (noB_free _)
  refine ⟨⟨mx, t1, t2⟩, fun g m f hg => ?_⟩
  unfold L.gl2 glU at hg
  cases hj : glJ g with
  | some y =>
    rw [hj] at hg
    have hg : y = (m, f) := Option.some.inj hg
    subst hg
    rcases glJ_mem (by rw [hj]; simp) with rfl | rfl | rfl | rfl
    · obtain ⟨rfl, rfl⟩ := Prod.mk.inj (Option.some.inj (hj.symm.trans (show glJ 11 = some (12, fun j => .int .u64 (bsF j)) from rfl))); exact a0
    · obtain ⟨rfl, rfl⟩ := Prod.mk.inj (Option.some.inj (hj.symm.trans (show glJ 13 = some (64, fun j => .int .u8 (dbF j)) from rfl))); exact a1
    · obtain ⟨rfl, rfl⟩ := Prod.mk.inj (Option.some.inj (hj.symm.trans (show glJ 6 = some (8, fun j => .int .u32 (stF j)) from rfl))); exact a2
    · obtain ⟨rfl, rfl⟩ := Prod.mk.inj (Option.some.inj (hj.symm.trans (show glJ 8 = some (64, fun j => .int .u32 (kF j)) from rfl))); exact a3
  | none =>
  rw [hj] at hg
  simp only at hg
  unfold L.gl0 at hg
  cases e0 : Nat.beq g 1 with
  | true =>
    rw [e0] at hg; obtain rfl := Nat.eq_of_beq_eq_true e0
    simp only [cond_true, Option.some.injEq, Prod.mk.injEq] at hg; obtain ⟨rfl, rfl⟩ := hg; exact b0
  | false =>
  cases e1 : Nat.beq g 2 with
  | true =>
    rw [e0, e1] at hg; obtain rfl := Nat.eq_of_beq_eq_true e1
    simp only [cond_true, cond_false, Option.some.injEq, Prod.mk.injEq] at hg; obtain ⟨rfl, rfl⟩ := hg; exact b4
  | false =>
  cases e2 : Nat.beq g 7 with
  | true =>
    rw [e0, e1, e2] at hg; obtain rfl := Nat.eq_of_beq_eq_true e2
    simp only [cond_true, cond_false, Option.some.injEq, Prod.mk.injEq] at hg; obtain ⟨rfl, rfl⟩ := hg; exact b1
  | false =>
  cases e3 : Nat.beq g 3 with
  | true =>
    rw [e0, e1, e2, e3] at hg; obtain rfl := Nat.eq_of_beq_eq_true e3
    simp only [cond_true, cond_false, Option.some.injEq, Prod.mk.injEq] at hg; obtain ⟨rfl, rfl⟩ := hg; exact b2
  | false =>
  cases e4 : Nat.beq g 4 with
  | true =>
    rw [e0, e1, e2, e3, e4] at hg; obtain rfl := Nat.eq_of_beq_eq_true e4
    simp only [cond_true, cond_false, Option.some.injEq, Prod.mk.injEq] at hg; obtain ⟨rfl, rfl⟩ := hg; exact b3
  | false => rw [e0, e1, e2, e3, e4] at hg; cases hg

def stepT : List CT := [.int .i64, .int .i64, .int .i64, .int .i64, .bool, .int .i64, .int .i64, .sl (i64s 1)]
def basO (g : Nat → AV) : Bas := ⟨⟨intOfAV (g 0), intOfAV (g 1), intOfAV (g 2)⟩, intOfAV (g 3), intOfAV (g 4), intOfAV (g 5)⟩
theorem basO_w {g : Nat → AV} (h : ∀ (j : Nat) c, (i64s 6)[j]? = some c → CellOk c (g j)) : (basO g).gr.W := ⟨(cell_R (h 0 _ rfl)).2, (cell_R (h 1 _ rfl)).2⟩

set_option maxRecDepth 100000 in
theorem consoleLines_lifted (os : Os) (started : os.Started) (H : Type) (enc : TypeId × Value → H) :
    ReturnsInHanded {} Tryz.checked os 5 .any (fun w args => (Rows.consoleLinesSpec.pre enc Tryz.prog Tryz.f5 [] false w args ∧ laidMetH Tryz.prog Rows.consoleLinesRow.laid w) ∧ sizedMet enc Tryz.prog Tryz.f5 (OpenSpec.ofChange Rows.consoleLinesSpec) false w args)
      (Rows.consoleLinesSpec.post enc Tryz.prog Tryz.f5 false true false false) := by
  refine returns_shaped (C := Tryz.checked) (X := fun w _ => laidMetH Tryz.prog Rows.consoleLinesRow.laid w) (fun _ _ _ hh h => h.of_heap hh) own started (by kernel_rfl) Tryz.func5
    (ChangeSpec.witness_shaped (enc := enc) (C := Tryz.checked) (os := os) (X := fun w _ => laidMetH Tryz.prog Rows.consoleLinesRow.laid w) false (World.laidAll Tryz.prog os Rows.consoleLinesRow.laid) #[.agg (Array.replicate 6 (.int .i64 0)), .agg #[.int .i64 0, .int .i64 0, .int .i64 0, .int .i64 0, .bool false, .int .i64 0, .int .i64 0, .slice none 0 0]] 8 (World.laidAll_os _ _ _) (World.shaped_of_ZipB (by kernel_rfl) (by kernel_rfl)) (by kernel_rfl) (by kernel_rfl) (by kernel_rfl)
      (by rw [MakeChecks.laidMetH_plain _ _ _ (by kernel_rfl)]; exact laidMet_laidAll _ (by kernel_rfl) (by kernel_rfl))) ?_
  intro W base args ds gs before hval0 hW hcnd _ hL hsh _
  have hW' := hW
  obtain ⟨p, q, hA0, hV, rfl, hfz, hnd⟩ := hW
  have hA : DataW.TrodAll enc Tryz.prog W 0 (fun _ => true) true Tryz.f5.params.toList args.toList ds p := hA0
  obtain ⟨G, hG, hR, f, hds⟩ := open_all (S := [(true, i64s 6), (true, stepT)]) 0 (by kernel_rfl) hA (fun j t v ht hv => hval0 j t v (by simpa using ht) (by simpa using hv))
  obtain ⟨m, hm⟩ := globs hL hsh
  refine (L.consoleLines_c m (basO (G 0)) (cmdOf (G 1)) (intOfAV (G 1 5)) (intOfAV (G 1 6)) (islN (G 1 7)) (fun i => intOfAV (islF (G 1 7) i 0)) (basO_w (hG 0 _ rfl)) ⟨cell_R (hG 1 _ rfl 1 _ rfl), cell_R (hG 1 _ rfl 2 _ rfl), cell_R (hG 1 _ rfl 3 _ rfl)⟩ (cell_R (hG 1 _ rfl 6 _ rfl)) (Nat.lt_of_le_of_lt (hG 1 _ rfl 7 _ rfl).sl_inv.1 (by decide))).calls hm hR (fun W2 hB => ⟨_, rfl, ?_⟩)
  exact post_law (tb := 4) laidOut rfl (by kernel_rfl) (by kernel_rfl) (by kernel_rfl) hW' hB (by rw [hds]; rfl)

theorem and_tt {a b : Bool} (h : a = true) (k : b = true) : (a && b) = true := by rw [h, k]; rfl

set_option maxHeartbeats 4000000 in
theorem consoleLines_facts : joinedFacts Tryz.pinned.checked.prog 5 Tryz.f5 Rows.consoleLinesSpec Rows.consoleLinesRow = true := by
  unfold joinedFacts
  refine and_tt (and_tt (and_tt (and_tt (and_tt (and_tt (and_tt (and_tt (and_tt (and_tt (and_tt (and_tt (and_tt (and_tt (and_tt (and_tt (and_tt (and_tt (and_tt (and_tt (and_tt (and_tt (and_tt (and_tt (and_tt (and_tt (and_tt (and_tt (and_tt (and_tt (and_tt ?_ ?_) ?_) ?_) ?_) ?_) ?_) ?_) ?_) ?_) ?_) ?_) ?_) ?_) ?_) ?_) ?_) ?_) ?_) ?_) ?_) ?_) ?_) ?_) ?_) ?_) ?_) ?_) ?_) ?_) ?_) ?_
  all_goals decide +kernel

theorem consoleLines_row : Rows.ConsoleLinesSaid :=
  OpenClaim.holds_of_wide 5 Tryz.f5 rfl rfl rfl rfl rfl rfl rfl ⟨rfl, rfl, rfl, rfl, rfl⟩ rfl rfl rfl rfl rfl (by kernel_rfl) Tryz.func5 consoleLines_facts
    (of_decide_eq_true (by kernel_rfl)) (by unfold Func.isWrapper; first | (rw [if_pos (by decide +kernel)]; kernel_rfl) | (rw [if_neg (by decide +kernel)]; exact ⟨rfl, rfl⟩))
    (fun os started H enc _ => consoleLines_lifted os started H enc)

theorem consoleLines_holds : Rows.ConsoleLinesCardSaid :=
  Claim7.holds_tied_plain_at .later [] [.data, .data, .data, .data, .data, .sentinel, .sentinel, .listed, .data, .data, .data, .pinned] true _ true
    consoleLines_row (fun _ h => by cases h) (by kernel_rfl) (fun _ h => by cases h) consoleLines_row_tie rfl ⟨rfl, rfl⟩ (by kernel_rfl) rfl
    (fun f fn hf hfn => by
      obtain rfl : f = 5 := Option.some.inj ((show Tryz.prog.funcNamed "specie/specielaw55.ConsoleLines" = some 5 by kernel_rfl).symm.trans hf) |>.symm
      obtain rfl : fn = Tryz.f5 := (Option.some.inj (Tryz.func5.symm.trans hfn)).symm
      exact ⟨by kernel_rfl, fun j t ht => by
        have hm : t ∈ Tryz.f5.params.toList := by simpa using Array.mem_of_getElem? ht
        have hall : (Tryz.f5.params.toList.all fun u => !Tryz.prog.wantsStandIn u) = true := by kernel_rfl
        exact (show Tryz.prog.wantsStandIn t = false by simpa using List.all_eq_true.1 hall t hm)⟩)
    (by kernel_rfl)

end Go.Proofs.YtbmdmoknnlhdoaaGreatDoor
