/- BankBlocks returns true for every input, and the input reads behind the call as it read before; the listed package-level variables are tied to the program's text. -/
import Derived.Test.YtpefjkpdniiaoaaGreatDoorRows
import Derived.Test.YtpefjkpdniiaoaaGreatDoorTie
import Derived.Test.YtpefjkpdniiaoaaGreatDoorCards
import Derived.Test.YtpefjkpdniiaoaaGreatDoorM10
import Derived.ProofKit
import Derived.SevenTiedAt
namespace Go.Proofs.YtpefjkpdniiaoaaGreatDoor

theorem J4 : Rows.bankBlocksRow.wfByText (.ofChange Rows.bankBlocksSpec) = true := by kernel_rfl
theorem JD : Tryz.pinned.checked.prog.mainIs = some (Rows.bankBlocksCard.stood.harness.1, Rows.bankBlocksCard.stood.harness.2.toList) := by kernel_rfl
theorem IN : false = Tryz.pinned.checked.prog.looks [] := by kernel_rfl
theorem JA : (Tryz.f3.params.toList.all fun u => !Tryz.pinned.checked.prog.wantsStandIn u) = true := by kernel_rfl
theorem KH : false = Rows.bankBlocksRow.goesBy Tryz.pinned.checked.prog := by kernel_rfl
theorem bankBlocks_holds : Rows.BankBlocksCardSaid :=
  Claim7.holds_tied_plain_at .later [] [.data, .data, .data, .data] true Rows.bankBlocksCard.stood.harness false
    pK (fun _ h => by cases h) J4 (fun _ h => by cases h) bankBlocks_row_tie rfl ⟨rfl, rfl⟩ JD rfl
    (fun f fn hf hfn => by
      obtain rfl : f = 3 := Option.some.inj (Ij.symm.trans hf) |>.symm
      obtain rfl : fn = Tryz.f3 := (Option.some.inj (Tryz.func3.symm.trans hfn)).symm
      exact ⟨IN, fun j t ht => by
        have hm : t ∈ Tryz.f3.params.toList := by simpa using Array.mem_of_getElem? ht
        exact (show Tryz.pinned.checked.prog.wantsStandIn t = false by simpa using List.all_eq_true.1 JA t hm)⟩)
    KH

end Go.Proofs.YtpefjkpdniiaoaaGreatDoor
