/- SupplyCounts returns true for every input, and the input reads behind the call as it read before; the listed package-level variables are tied to the program's text. -/
import Derived.Test.YtcageinnelhonaaGreatDoorRows
import Derived.Test.YtcageinnelhonaaGreatDoorTie
import Derived.Test.YtcageinnelhonaaGreatDoorCards
import Derived.Test.YtcageinnelhonaaGreatDoorM9
import Derived.ProofKit
import Derived.SevenTiedAt
namespace Go.Proofs.YtcageinnelhonaaGreatDoor

theorem card_1 : Rows.supplyCountsRow.wfByText (.ofChange Rows.supplyCountsSpec) = true := by kernel_rfl
theorem card_2 : Tryz.pinned.checked.prog.mainIs = some (Rows.supplyCountsCard.stood.harness.1, Rows.supplyCountsCard.stood.harness.2.toList) := by kernel_rfl
theorem card_3 : false = Tryz.pinned.checked.prog.looks [] := by kernel_rfl
theorem card_4 : (Tryz.f3.params.toList.all fun u => !Tryz.pinned.checked.prog.wantsStandIn u) = true := by kernel_rfl
theorem card_5 : false = Rows.supplyCountsRow.goesBy Tryz.pinned.checked.prog := by kernel_rfl
theorem supplyCounts_holds : Rows.SupplyCountsCardSaid :=
  Claim7.holds_tied_plain_at .later [] [.data, .data, .data, .data] true Rows.supplyCountsCard.stood.harness false
    supplyCounts_row (fun _ h => by cases h) card_1 (fun _ h => by cases h) supplyCounts_row_tie rfl ⟨rfl, rfl⟩ card_2 rfl
    (fun f fn hf hfn => by
      obtain rfl : f = 3 := Option.some.inj (row_1.symm.trans hf) |>.symm
      obtain rfl : fn = Tryz.f3 := (Option.some.inj (Tryz.func3.symm.trans hfn)).symm
      exact ⟨card_3, fun j t ht => by
        have hm : t ∈ Tryz.f3.params.toList := by simpa using Array.mem_of_getElem? ht
        exact (show Tryz.pinned.checked.prog.wantsStandIn t = false by simpa using List.all_eq_true.1 card_4 t hm)⟩)
    card_5

end Go.Proofs.YtcageinnelhonaaGreatDoor
