/-
  Spends as arguments.
-/
import Derived.Test.YtehcijjdibdljaaSpMath
import Derived.Test.YtehcijjdibdljaaEnRow
namespace Go.Sp
open Go Go.Am

def u8s (n : Nat) : List CT := List.replicate n (.int .u8)
def spendT : List CT := [.int .i64, .int .i64, .int .i64, .int .i64, .int .i64] ++ u8s 32 ++ [.int .i64, .int .i64, .int .i64, .int .i64, .int .i64, .int .i64] ++ u8s 32 ++ [.int .i64, .int .i64, .sl [.int .i64, .int .i64, .int .i64], .int .i64, .sl (u8s 32)]

/-- The spend with these cells. -/
def spendOf (g : Nat → AV) : Spend :=
  { bank := intOfAV (g 0), epoch := intOfAV (g 1), denom := intOfAV (g 2), depth := intOfAV (g 3), a := intOfAV (g 4), root := fun j => intOfAV (g (5 + j)),
    z := intOfAV (g 37), sa := intOfAV (g 38), sb := intOfAV (g 39), r := intOfAV (g 40), level := intOfAV (g 41), index := intOfAV (g 42), payee := fun j => intOfAV (g (43 + j)),
    time := intOfAV (g 75), number := intOfAV (g 76), nl := islN (g 77), lf := fun i j => intOfAV (islF (g 77) i j), pidx := intOfAV (g 78), np := islN (g 79), pf := fun i j => intOfAV (islF (g 79) i j) }

set_option maxRecDepth 100000 in
theorem spend_of {w : World} {cs : List Value} (h : Fits w spendT cs) : ∃ s : Spend, Rel noB w s.av (.agg cs.toArray) := by
  obtain ⟨g, hg⟩ := h.pick
  refine ⟨spendOf g, h.agg hg ?_⟩
  show EntL [] _ (Spend.cw (spendOf g) (.isl 3 (islN (g 77)) fun i j => .int .i64 (intOfAV (islF (g 77) i j))) (.isl 32 (islN (g 79)) fun i j => .int .u8 (intOfAV (islF (g 79) i j))))
  have hl : ∀ os, Ent os (g 77) (.isl 3 (islN (g 77)) fun i j => .int .i64 (intOfAV (islF (g 77) i j))) := fun os => canonL (cs := [.int .i64, .int .i64, .int .i64]) (hg 77 _ rfl).1 rfl
  have hp : ∀ os, Ent os (g 79) (.isl 32 (islN (g 79)) fun i j => .int .u8 (intOfAV (islF (g 79) i j))) := fun os => canonL (cs := u8s 32) (hg 79 _ rfl).1 rfl
  have hi : ∀ os j k, spendT[j]? = some (.int k) → Ent os (g j) (.int k (intOfAV (g j))) := fun os j k hj => canonI (hg j _ hj).1
  unfold Spend.cw
  exact ⟨hi _ 0 _ rfl, hi _ 1 _ rfl, hi _ 2 _ rfl, hi _ 3 _ rfl, hi _ 4 _ rfl, hi _ 5 _ rfl, hi _ 6 _ rfl, hi _ 7 _ rfl, hi _ 8 _ rfl, hi _ 9 _ rfl, hi _ 10 _ rfl, hi _ 11 _ rfl, hi _ 12 _ rfl, hi _ 13 _ rfl, hi _ 14 _ rfl, hi _ 15 _ rfl, hi _ 16 _ rfl, hi _ 17 _ rfl, hi _ 18 _ rfl, hi _ 19 _ rfl, hi _ 20 _ rfl, hi _ 21 _ rfl, hi _ 22 _ rfl, hi _ 23 _ rfl, hi _ 24 _ rfl, hi _ 25 _ rfl, hi _ 26 _ rfl, hi _ 27 _ rfl, hi _ 28 _ rfl, hi _ 29 _ rfl, hi _ 30 _ rfl, hi _ 31 _ rfl, hi _ 32 _ rfl, hi _ 33 _ rfl, hi _ 34 _ rfl, hi _ 35 _ rfl, hi _ 36 _ rfl, hi _ 37 _ rfl, hi _ 38 _ rfl, hi _ 39 _ rfl, hi _ 40 _ rfl, hi _ 41 _ rfl, hi _ 42 _ rfl, hi _ 43 _ rfl, hi _ 44 _ rfl, hi _ 45 _ rfl, hi _ 46 _ rfl, hi _ 47 _ rfl, hi _ 48 _ rfl, hi _ 49 _ rfl, hi _ 50 _ rfl, hi _ 51 _ rfl, hi _ 52 _ rfl, hi _ 53 _ rfl, hi _ 54 _ rfl, hi _ 55 _ rfl, hi _ 56 _ rfl, hi _ 57 _ rfl, hi _ 58 _ rfl, hi _ 59 _ rfl, hi _ 60 _ rfl, hi _ 61 _ rfl, hi _ 62 _ rfl, hi _ 63 _ rfl, hi _ 64 _ rfl, hi _ 65 _ rfl, hi _ 66 _ rfl, hi _ 67 _ rfl, hi _ 68 _ rfl, hi _ 69 _ rfl, hi _ 70 _ rfl, hi _ 71 _ rfl, hi _ 72 _ rfl, hi _ 73 _ rfl, hi _ 74 _ rfl, hi _ 75 _ rfl, hi _ 76 _ rfl, hl _, hi _ 78 _ rfl, hp _, trivial⟩

end Go.Sp
