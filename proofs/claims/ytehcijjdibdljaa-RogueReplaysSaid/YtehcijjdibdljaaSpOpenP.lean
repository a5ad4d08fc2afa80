/-
  Payments and invoices as arguments.
-/
import Derived.Test.YtehcijjdibdljaaSpOpen
import Derived.Test.YtehcijjdibdljaaSpPay
import Derived.Test.YtehcijjdibdljaaEnArg
namespace Go.Sp
open Go Go.Am

def i64s (n : Nat) : List CT := List.replicate n (.int .i64)
def chnT : List CT := spendT ++ [.sl spendT]
def escT : List CT := [.int .i64, .int .i64, .sl [.int .i64], .int .i64, .sl [.int .i64]]
def payT : List CT := [.int .i64, .sl spendT, .sl chnT, .sl escT]
def invT : List CT := u8s 32 ++ i64s 3

def chnOf (g : Nat → AV) : Chn := ⟨spendOf g, islN (g 80), fun i => spendOf (islF (g 80) i)⟩
def escOf (g : Nat → AV) : Esc := ⟨intOfAV (g 0), intOfAV (g 1), islN (g 2), fun i => intOfAV (islF (g 2) i 0), intOfAV (g 3), islN (g 4), fun i => intOfAV (islF (g 4) i 0)⟩
def payOf (g : Nat → AV) : Pay := ⟨intOfAV (g 0), islN (g 1), fun i => spendOf (islF (g 1) i), islN (g 2), fun i => chnOf (islF (g 2) i), islN (g 3), fun i => escOf (islF (g 3) i)⟩
def invOf (g : Nat → AV) : Inv := ⟨fun j => intOfAV (g j), intOfAV (g 32), intOfAV (g 33), intOfAV (g 34)⟩

set_option maxRecDepth 100000 in
theorem pay_of {w : World} {cs : List Value} (h : Fits w payT cs) : ∃ p : Pay, Rel noB w p.av (.agg cs.toArray) ∧ p.nc ≤ maxLen ∧ ∀ i, i < p.nc → (p.ch i).n ≤ maxLen := by
  obtain ⟨g, hg, hr⟩ := h.canon
  have h2 := (hg 2 (.sl chnT) rfl).sl_inv
  refine ⟨payOf g, ?_, h2.1, fun i hi => ((h2.2 i 80 (.sl spendT) hi rfl).sl_inv).1⟩
  exact hr

set_option maxRecDepth 100000 in
theorem inv_of {w : World} {cs : List Value} (h : Fits w invT cs) : ∃ p : Inv, Rel noB w p.av (.agg cs.toArray) := by
  obtain ⟨g, hg, hr⟩ := h.canon
  exact ⟨invOf g, hr⟩

end Go.Sp
