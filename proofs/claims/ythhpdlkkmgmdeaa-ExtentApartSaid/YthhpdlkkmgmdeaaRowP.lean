/-
  A row's slice of small structs or arrays of ints: what lies in memory.
-/
import Derived.Test.YthhpdlkkmgmdeaaBase
import Derived.OpenShut
import Derived.Deep.Slices
set_option linter.unusedVariables false
set_option linter.unusedSimpArgs false
namespace Go.Proofs.Ythhpdlkkmgmdeaa
open Go Go.RowKit Go.ChangeShapes

section
variable {H : Type} {enc : TypeId × Value → H} {P : Program} {w : World} {base : Nat} {spare : Nat → Bool} {held : Bool}

/-- A slice whose elements are, each, k ints: the numbers, flat. -/
theorem open_flat {t e : TypeId} {k fuel : Nat} {A : Option Addr} {len cap : Nat} {x : DataW H × List MemPlace} (ht : P.underlying t = some (.slice e)) (hc : P.cellsOf e = k) (hk : 0 < k)
    (he : ∀ {n : Nat} {cs : List Value} {y : DataW H × List MemPlace}, DataW.trod enc P w base spare held n e cs = some y → cs.length = k → ∀ j, j < k → ∃ z, cs[j]? = some (.int .i64 z) ∧ (Lit.int .i64 z).wf = true)
    (h : DataW.trod enc P w base spare held fuel t [.slice A len cap] = some x) :
    ∃ f : Nat → Int, Sl w A len k ((List.range (len * k)).map fun i => Value.int .i64 (f i)) ∧ (∀ i, i < len * k → (Lit.int .i64 (f i)).wf = true) ∧ len ≤ cap := by
  rcases Go.Deep.open_slice ht h with ⟨hcs, _⟩ | ⟨a, len', cap', m, n, D, Pl, hcs, hb, hl, hm, hmm, _, hx⟩
  · simp at hcs
    obtain ⟨rfl, rfl, rfl⟩ := hcs
    exact ⟨fun _ => 0, ⟨by simp, fun h => absurd h (by omega)⟩, fun i hi => by omega, Nat.le_refl _⟩
  · simp at hcs
    obtain ⟨rfl, rfl, rfl⟩ := hcs
    have hlm : len ≤ m := by rw [hmm]; split <;> omega
    have key : ∀ i, i < len * k → ∃ z, w.cell? (a.add i) = some (.int .i64 z) ∧ (Lit.int .i64 z).wf = true := by
      intro i hi
      have hik : i / k < len := by rw [Nat.div_lt_iff_lt_mul hk]; exact hi
      obtain ⟨cs', h1, h2⟩ := hx (i / k) (by omega)
      rw [hc] at h1
      obtain ⟨_, hlen, hcell⟩ := World.cells?_some h1
      have hjk : i % k < k := Nat.mod_lt _ hk
      obtain ⟨z, hz, hwf⟩ := he h2 hlen (i % k) hjk
      refine ⟨z, ?_, hwf⟩
      have := hcell (i % k) hjk
      rw [hz] at this
      have e : (a.add (i / k * k)).add (i % k) = a.add i := by
        rw [Go.Deep.add_add, Nat.mul_comm, Nat.div_add_mod]
      rwa [e] at this
    obtain ⟨f, hf⟩ := Go.Deep.choose_lt key
    refine ⟨f, ⟨by simp, fun hn => ?_⟩, fun i hi => (hf i hi).2, hl⟩
    have h0 : 0 < len * k := Nat.mul_pos hn hk
    obtain ⟨b, off, spot⟩ := a
    have hspot : spot = none := by simpa [Addr.add] using World.cell?_spot (hf 0 h0).1
    subst hspot
    have hc0 : ∀ j, j < len * k → w.cell? ⟨b, off + j, none⟩ = some (.int .i64 (f j)) := fun j hj => by rw [← Go.WideShapes.add_plain]; exact (hf j hj).1
    refine ⟨b, off, rfl, World.block_lt_of_cell? w _ (hc0 0 h0), fun j u hu => ?_⟩
    have hj : j < len * k := by have := (List.getElem?_eq_some_iff.1 hu).1; simpa using this
    rw [hc0 j hj]
    simp [hj] at hu
    rw [← hu]

theorem elem_arr {e i : TypeId} {k : Nat} (he : P.underlying e = some (.array k i)) (hi : P.underlying i = some (.int .i64)) (hci : P.cellsOf i = 1) {n : Nat} {cs : List Value} {y : DataW H × List MemPlace} (h : DataW.trod enc P w base spare held n e cs = some y) (hl : cs.length = k) :
    ∀ j, j < k → ∃ z, cs[j]? = some (.int .i64 z) ∧ (Lit.int .i64 z).wf = true := by
  obtain ⟨xs, m, _, _, _, hxs, hall⟩ := DataW.trod_array he h
  intro j hj
  have := hall j hj
  rw [hci, Nat.mul_one, List.getElem?_eq_getElem (by rw [hxs]; exact hj)] at this
  obtain ⟨z, hz, _, hwf⟩ := DataW.trod_int hi this
  refine ⟨z, ?_, hwf⟩
  have h2 : ((cs.drop j).take 1)[0]? = some (.int .i64 z) := by rw [hz]; rfl
  rw [List.getElem?_take, if_pos (by omega), List.getElem?_drop, Nat.add_zero] at h2
  exact h2
end
end Go.Proofs.Ythhpdlkkmgmdeaa
