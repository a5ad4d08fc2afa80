/- BankOpens returns true for every input, and the input reads behind the call as it read before; the listed package-level variables are tied to the program's text. -/
import Derived.Test.YtgnfjlekpgjehaaGreatDoorRows
import Derived.Test.YtgnfjlekpgjehaaGreatDoorTie
import Derived.Test.YtgnfjlekpgjehaaGreatDoorCards
import Derived.Test.YtgnfjlekpgjehaaGreatDoorM9
import Derived.ProofKit
import Derived.SevenTiedAt
namespace Go.Proofs.YtgnfjlekpgjehaaGreatDoor

theorem LG : Rows.bankOpensRow.wfByText (.ofChange Rows.bankOpensSpec) = true := by kernel_rfl
theorem Ll : Tryz.pinned.checked.prog.mainIs = some (Rows.bankOpensCard.stood.harness.1, Rows.bankOpensCard.stood.harness.2.toList) := by kernel_rfl
theorem K3 : false = Tryz.pinned.checked.prog.looks [] := by kernel_rfl
theorem LZ : (Tryz.f3.params.toList.all fun u => !Tryz.pinned.checked.prog.wantsStandIn u) = true := by kernel_rfl
theorem JL : false = Rows.bankOpensRow.goesBy Tryz.pinned.checked.prog := by kernel_rfl
theorem bankOpens_holds : Rows.BankOpensCardSaid :=
  Claim7.holds_tied_plain_at .later [] [.data, .data, .data, .data] true Rows.bankOpensCard.stood.harness false
    qD (fun _ h => by cases h) LG (fun _ h => by cases h) bankOpens_row_tie rfl ⟨rfl, rfl⟩ Ll rfl
    (fun f fn hf hfn => by
      obtain rfl : f = 3 := Option.some.inj (IF.symm.trans hf) |>.symm
      obtain rfl : fn = Tryz.f3 := (Option.some.inj (Tryz.func3.symm.trans hfn)).symm
      exact ⟨K3, fun j t ht => by
        have hm : t ∈ Tryz.f3.params.toList := by simpa using Array.mem_of_getElem? ht
        exact (show Tryz.pinned.checked.prog.wantsStandIn t = false by simpa using List.all_eq_true.1 LZ t hm)⟩)
    JL

end Go.Proofs.YtgnfjlekpgjehaaGreatDoor
