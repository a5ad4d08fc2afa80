/- BankBlocks returns true for every input, and the input reads behind the call as it read before; the listed package-level variables are tied to the program's text. -/
import Derived.Test.YtpefjkpdniiaoaaGreatDoorRows
import Derived.Test.YtpefjkpdniiaoaaGreatDoorTie
import Derived.Test.YtpefjkpdniiaoaaGreatDoorCards
import Derived.Test.YtpefjkpdniiaoaaGreatDoorM9
import Derived.ProofKit
import Derived.SevenTiedAt
namespace Go.Proofs.YtpefjkpdniiaoaaGreatDoor

theorem Js : Rows.bankBlocksRow.wfByText (.ofChange Rows.bankBlocksSpec) = true := by kernel_rfl
theorem JV : Tryz.pinned.checked.prog.mainIs = some (Rows.bankBlocksCard.stood.harness.1, Rows.bankBlocksCard.stood.harness.2.toList) := by kernel_rfl
theorem IY : false = Tryz.pinned.checked.prog.looks [] := by kernel_rfl
theorem Ld : (Tryz.f3.params.toList.all fun u => !Tryz.pinned.checked.prog.wantsStandIn u) = true := by kernel_rfl
theorem K4 : false = Rows.bankBlocksRow.goesBy Tryz.pinned.checked.prog := by kernel_rfl
theorem bankBlocks_holds : Rows.BankBlocksCardSaid :=
  Claim7.holds_tied_plain_at .later [] [.data, .data, .data, .data] true Rows.bankBlocksCard.stood.harness false
    o7 (fun _ h => by cases h) Js (fun _ h => by cases h) bankBlocks_row_tie rfl ⟨rfl, rfl⟩ JV rfl
    (fun f fn hf hfn => by
      obtain rfl : f = 3 := Option.some.inj (HL.symm.trans hf) |>.symm
      obtain rfl : fn = Tryz.f3 := (Option.some.inj (Tryz.func3.symm.trans hfn)).symm
      exact ⟨IY, fun j t ht => by
        have hm : t ∈ Tryz.f3.params.toList := by simpa using Array.mem_of_getElem? ht
        exact (show Tryz.pinned.checked.prog.wantsStandIn t = false by simpa using List.all_eq_true.1 Ld t hm)⟩)
    K4

end Go.Proofs.YtpefjkpdniiaoaaGreatDoor
