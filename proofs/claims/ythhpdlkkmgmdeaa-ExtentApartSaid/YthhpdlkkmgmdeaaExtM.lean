/-
  Sectors in memory: a map's block and the block of its Booleans; what a store turns.
-/
import Derived.Test.YthhpdlkkmgmdeaaBase
import Derived.Test.YthhpdlkkmgmdeaaExtP
set_option linter.unusedVariables false
set_option linter.unusedSimpArgs false
namespace Go.Proofs.Ythhpdlkkmgmdeaa
open Go Go.RowKit

section
variable {w w' w1 w2 : World}
theorem gb_refl (w : World) (row : Option Nat) : w.grownBy w row := ⟨rfl, rfl, rfl, Nat.le_refl _, fun _ _ _ => rfl⟩
theorem gb_trans {row : Option Nat} (h : w.grownBy w1 row) (k : w1.grownBy w2 row) : w.grownBy w2 row :=
  ⟨k.os.trans h.os, k.tape.trans h.tape, k.output.trans h.output, Nat.le_trans h.size k.size, fun i hi hne => (k.block i (Nat.lt_of_lt_of_le hi h.size) hne).trans (h.block i hi hne)⟩
theorem gb_gr (h : Gr w w') (row : Option Nat) : w.grownBy w' row := ⟨h.os, h.tape, h.output, h.size, fun k hk _ => h.block hk⟩
theorem gb_below {b n₀ : Nat} (h : w.grownBy w' (some b)) (h1 : n₀ ≤ b) (h2 : n₀ ≤ w.heap.size) : Below n₀ w w' :=
  ⟨h.os, h.tape, h.output, h.size, fun k hk => h.block k (by omega) (fun e => by injection e; omega)⟩
theorem gb_set (w : World) (a : Addr) (u : Value) : w.grownBy (w.setCell a u) (some a.block) :=
  ⟨rfl, rfl, rfl, by simp [World.setCell], fun k _ hk => Below.heap_setCell _ _ _ k (fun e => hk (by rw [e]))⟩
theorem gb_heap {k : Nat} {o : Obj} {row : Option Nat} (h : w.grownBy w' row) (hk : w.heap[k]? = some o) (hne : some k ≠ row) : w'.heap[k]? = some o :=
  (h.block k (Array.getElem?_eq_some_iff.1 hk).1 hne).trans hk
theorem gb_cell {a : Addr} {v : Value} {row : Option Nat} (h : w.grownBy w' row) (hk : w.cell? a = some v) (hne : some a.block ≠ row) : w'.cell? a = some v :=
  (World.cell?_of_block (h.block a.block (World.block_lt_of_cell? w a hk) hne)).trans hk
end

structure IsExt (w : World) (g b c : Nat) (t : TypeId) (u : List Bool) : Prop where
  hd : w.heap[g]? = some (.cells #[.slice (some ⟨b, 0, none⟩) u.length c] t (0, 0))
  cap : u.length ≤ c
  cs : ∀ j, j < u.length → w.cell? ⟨b, j, none⟩ = some (.bool (uat u j))
  fz : ∀ j, j < u.length → w.frozen? ⟨b, j, none⟩ = false
  bl : b < w.heap.size
  ne : g ≠ b

theorem IsExt.kept {w w' : World} {g b c : Nat} {t : TypeId} {u : List Bool} {row : Option Nat} (h : IsExt w g b c t u) (hg : w.grownBy w' row) (h1 : some g ≠ row) (h2 : some b ≠ row) : IsExt w' g b c t u :=
  ⟨gb_heap hg h.hd h1, h.cap, fun j hj => gb_cell hg (h.cs j hj) h2, fun j hj => (World.frozen?_of_block (a := ⟨b, j, none⟩) (hg.block b h.bl h2)).trans (h.fz j hj), Nat.lt_of_lt_of_le h.bl hg.size, h.ne⟩
theorem IsExt.gr {w w' : World} {g b c : Nat} {t : TypeId} {u : List Bool} (h : IsExt w g b c t u) (hg : Gr w w') : IsExt w' g b c t u := h.kept (gb_gr hg none) (by simp) (by simp)
theorem IsExt.cell0 {w : World} {g b c : Nat} {t : TypeId} {u : List Bool} (h : IsExt w g b c t u) : w.cell? ⟨g, 0, none⟩ = some (.slice (some ⟨b, 0, none⟩) u.length c) := row_cell h.hd 0 rfl

theorem IsExt.set {w : World} {g b c : Nat} {t : TypeId} {u : List Bool} (h : IsExt w g b c t u) {j : Nat} (hj : j < u.length) (v : Bool) : IsExt (w.setCell ⟨b, j, none⟩ (.bool v)) g b c t (u.set j v) := by
  have hg := gb_set w ⟨b, j, none⟩ (.bool v)
  have hne : some g ≠ some b := fun e => h.ne (by injection e)
  refine ⟨by rw [List.length_set]; exact gb_heap hg h.hd hne, by rw [List.length_set]; exact h.cap, fun k hk => ?_, fun k hk => ?_, Nat.lt_of_lt_of_le h.bl hg.size, h.ne⟩
  · rw [List.length_set] at hk
    by_cases hkj : j = k
    · subst hkj
      have hu : uat (u.set j v) j = v := by simp [uat, List.getD, List.getElem?_set, hj]
      rw [hu]
      exact World.cell?_setCell_same' _ _ _ (by rw [h.cs j hj]; rfl)
    · have hu : uat (u.set j v) k = uat u k := by simp [uat, List.getD, List.getElem?_set, hkj]
      rw [hu, World.cell?_setCell_other]
      · exact h.cs k hk
      · intro e; injection e with _ e; exact hkj e
  · rw [List.length_set] at hk
    rw [World.frozen?_setCell]
    exact h.fz k hk
end Go.Proofs.Ythhpdlkkmgmdeaa
