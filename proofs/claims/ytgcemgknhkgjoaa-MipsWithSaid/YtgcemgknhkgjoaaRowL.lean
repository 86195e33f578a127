/-
  What a row's slice of ints holds: it is a slice of ints of ours (Ints), each within an int's bounds.
-/
import Derived.Test.YtgcemgknhkgjoaaBase
import Derived.OpenShut
set_option linter.unusedVariables false
namespace Go.Proofs.Ytgcemgknhkgjoaa
open Go Go.RowKit

theorem ints_row {w : World} {x : Addr} {zs : List Int} {len : Nat} (hl : len ≤ zs.length) (hc : ∀ i, i < zs.length → w.cell? (x.add i) = some (.int .i64 (zs.getD i 0))) : Ints w (some x) (zs.take len) := by
  refine ⟨by simp [ints], fun hn => ?_⟩
  have hn' : 0 < zs.length := by simp at hn; omega
  obtain ⟨b, off, rfl, h⟩ := ints_at hc hn'
  refine ⟨b, off, rfl, World.block_lt_of_cell? w _ (h 0 hn'), fun j u hu => ?_⟩
  have hj : j < len ∧ j < zs.length := by
    have := (List.getElem?_eq_some_iff.1 hu).1
    simp [ints] at this
    omega
  rw [h j hj.2]
  simp [ints, hj.1, hj.2] at hu
  rw [← hu]
  simp [hj.2]

theorem bd_take {zs : List Int} {len : Nat} (h : ∀ n ∈ zs, (Lit.int .i64 n).wf = true) : ∀ x ∈ zs.take len, -9223372036854775808 ≤ x ∧ x ≤ 9223372036854775807 :=
  fun x hx => bounds_i64 (h x (List.mem_of_mem_take hx))
theorem take_len {zs : List Int} {len : Nat} (h : len ≤ zs.length) : (zs.take len).length = len := by simp; omega
end Go.Proofs.Ytgcemgknhkgjoaa
