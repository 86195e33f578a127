/-
  Pairs of ints, flat in memory, as a list of pairs.
-/
import Derived.Test.YthhpdlkkmgmdeaaRowP
import Derived.Test.YthhpdlkkmgmdeaaExtG
set_option linter.unusedVariables false
namespace Go.Proofs.Ythhpdlkkmgmdeaa
open Go Go.RowKit
theorem flat_pairs (f : Nat → Int) (n : Nat) : ipairs ((List.range n).map fun i => (f (i * 2), f (i * 2 + 1))) = (List.range (n * 2)).map fun i => Value.int .i64 (f i) := by
  induction n with
  | zero => rfl
  | succ n ih =>
    rw [List.range_succ, List.map_append]
    unfold ipairs at *
    rw [List.flatMap_append, ih, show (n + 1) * 2 = n * 2 + 1 + 1 by omega, List.range_succ, List.range_succ]
    simp
end Go.Proofs.Ythhpdlkkmgmdeaa
