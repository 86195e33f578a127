/-
  A row's argument that is an array of four ints.
-/
import Derived.Test.YtgcemgknhkgjoaaRowL
import Derived.Laws.IdiomArrays
import Derived.Lib.SmallJoins
set_option linter.unusedVariables false
namespace Go.Proofs.Ytgcemgknhkgjoaa
open Go Go.RowKit Go.ChangeShapes

section
variable {H : Type} {enc : TypeId × Value → H} {P : Program} {w : World} {base : Nat} {spare : Nat → Bool} {held : Bool}
theorem open_arr4 {r : Reach} {b0 : Nat} {t e : TypeId} {v : Value} {d : DataW H} {p : List MemPlace} (ht : P.underlying t = some (.array 4 e)) (he : P.underlying e = some (.int .i64)) (hce : P.cellsOf e = 1) (hct : P.cellsOf t = 4)
    (hv : Value.okWide P w r b0 t v) (h : DataW.Trod enc P w base spare held t v d p) :
    ∃ a0 a1 a2 a3 : Int, v = .agg #[.int .i64 a0, .int .i64 a1, .int .i64 a2, .int .i64 a3] ∧ (Lit.int .i64 a0).wf = true ∧ (Lit.int .i64 a1).wf = true ∧ (Lit.int .i64 a2).wf = true ∧ (Lit.int .i64 a3).wf = true := by
  simp only [Value.okWide, ht] at hv
  obtain ⟨cs, rfl, h2, _⟩ := hv
  obtain ⟨c0, c1, c2, c3, rfl⟩ := Go.Joins.array4 (h2.trans hct)
  obtain ⟨fuel, hf⟩ := h
  obtain ⟨y0, y1, y2, y3, n, _, q0, q1, q2, q3⟩ := trod_array4 ht hce (by simpa [Value.cells] using hf)
  obtain ⟨a0, e0, _, w0⟩ := DataW.trod_int he q0
  obtain ⟨a1, e1, _, w1⟩ := DataW.trod_int he q1
  obtain ⟨a2, e2, _, w2⟩ := DataW.trod_int he q2
  obtain ⟨a3, e3, _, w3⟩ := DataW.trod_int he q3
  simp only [List.cons.injEq, and_true] at e0 e1 e2 e3
  subst e0 e1 e2 e3
  exact ⟨a0, a1, a2, a3, rfl, w0, w1, w2, w3⟩
end
end Go.Proofs.Ytgcemgknhkgjoaa

