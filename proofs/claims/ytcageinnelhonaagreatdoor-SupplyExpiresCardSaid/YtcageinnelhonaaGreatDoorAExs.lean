/- SupplyExpires returns true for every input, and the input reads behind the call as it read before; the listed package-level variables are tied to the program's text. -/
import Derived.Test.YtcageinnelhonaaGreatDoorRows
import Derived.Test.YtcageinnelhonaaGreatDoorTie
import Derived.Test.YtcageinnelhonaaGreatDoorCards
import Derived.Test.YtcageinnelhonaaGreatDoorM9
import Derived.ProofKit
import Derived.SevenTiedAt
namespace Go.Proofs.YtcageinnelhonaaGreatDoor

theorem card_1 : Rows.supplyExpiresRow.wfByText (.ofChange Rows.supplyExpiresSpec) = true := by kernel_rfl
theorem card_2 : Tryz.pinned.checked.prog.mainIs = some (Rows.supplyExpiresCard.stood.harness.1, Rows.supplyExpiresCard.stood.harness.2.toList) := by kernel_rfl
theorem card_3 : false = Tryz.pinned.checked.prog.looks [] := by kernel_rfl
theorem card_4 : (Tryz.f4.params.toList.all fun u => !Tryz.pinned.checked.prog.wantsStandIn u) = true := by kernel_rfl
theorem card_5 : false = Rows.supplyExpiresRow.goesBy Tryz.pinned.checked.prog := by kernel_rfl
theorem supplyExpires_holds : Rows.SupplyExpiresCardSaid :=
  Claim7.holds_tied_plain_at .later [] [.data, .data, .data, .data] true Rows.supplyExpiresCard.stood.harness false
    supplyExpires_row (fun _ h => by cases h) card_1 (fun _ h => by cases h) supplyExpires_row_tie rfl ⟨rfl, rfl⟩ card_2 rfl
    (fun f fn hf hfn => by
      obtain rfl : f = 4 := Option.some.inj (row_1.symm.trans hf) |>.symm
      obtain rfl : fn = Tryz.f4 := (Option.some.inj (Tryz.func4.symm.trans hfn)).symm
      exact ⟨card_3, fun j t ht => by
        have hm : t ∈ Tryz.f4.params.toList := by simpa using Array.mem_of_getElem? ht
        exact (show Tryz.pinned.checked.prog.wantsStandIn t = false by simpa using List.all_eq_true.1 card_4 t hm)⟩)
    card_5

end Go.Proofs.YtcageinnelhonaaGreatDoor
