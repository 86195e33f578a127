/-
  The plain law of ExtentApart: the search of the first fit, and what is taken and given back.
-/
import Derived.Test.YthhpdlkkmgmdeaaExtL
set_option linter.unusedVariables false
set_option linter.unusedSimpArgs false
namespace Go.Proofs.Ythhpdlkkmgmdeaa
open Go Go.RowKit

/-- The search: a is next, run free ones stand right ahead of a; nothing found so far. -/
structure Seek (u : List Bool) (K a run : Nat) : Prop where
  le : run ≤ a
  lt : run < K
  lo : a - run = 0 ∨ uat u (a - run - 1) = true
  free : ∀ j, a - run ≤ j → j < a → uat u j = false
  no : ∀ x, x + K ≤ a → ¬ AllFree (uat u) x K

theorem Seek.start (u : List Bool) {K : Nat} (hK : 1 ≤ K) : Seek u K 0 0 := ⟨Nat.le_refl _, hK, .inl rfl, fun j _ h => absurd h (Nat.not_lt_zero _), fun x hx => by omega⟩
theorem Seek.used {u : List Bool} {K a run : Nat} (hK : 1 ≤ K) (h : Seek u K a run) (hu : uat u a = true) : Seek u K (a + 1) 0 :=
  ⟨by omega, hK, .inr (by simpa using hu), fun j h1 h2 => by omega, fun x hx hf => by
    by_cases hx2 : x + K ≤ a
    · exact h.no x hx2 hf
    · have := hf a (by omega) (by omega)
      rw [hu] at this; cases this⟩
theorem Seek.go {u : List Bool} {K a run : Nat} (h : Seek u K a run) (hu : uat u a = false) (hr : run + 1 ≠ K) : Seek u K (a + 1) (run + 1) := by
  have h1 := h.le
  have h2 := h.lt
  refine ⟨by omega, by omega, ?_, fun j h3 h4 => ?_, fun x hx hf => ?_⟩
  · rw [show a + 1 - (run + 1) = a - run by omega]; exact h.lo
  · by_cases hj : j = a
    · subst hj; exact hu
    · exact h.free j (by omega) (by omega)
  · by_cases hx2 : x + K ≤ a
    · exact h.no x hx2 hf
    · rcases h.lo with h3 | h3
      · omega
      · have := hf (a - run - 1) (by omega) (by omega)
        rw [this] at h3; cases h3
theorem Seek.hit {u : List Bool} {K a run : Nat} (h : Seek u K a run) (hu : uat u a = false) (hr : run + 1 = K) : AllFree (uat u) (a + 1 - K) K ∧ ∀ x, x < a + 1 - K → ¬ AllFree (uat u) x K := by
  have h1 := h.le
  refine ⟨fun j h3 h4 => ?_, fun x hx => h.no x (by omega)⟩
  by_cases hj : j = a
  · subst hj; exact hu
  · exact h.free j (by omega) (by omega)
theorem Seek.done {u : List Bool} {K run : Nat} (hK : 1 ≤ K) (h : Seek u K u.length run) : takeR u (K : Int) = (0, 6, u) := by
  unfold takeR
  rw [if_neg (by omega), Int.toNat_natCast, fit_no hK h.no]
theorem take_hit {u : List Bool} {K s : Nat} (hK : 1 ≤ K) (h1 : AllFree (uat u) s K) (h2 : s + K ≤ u.length) (h3 : ∀ x, x < s → ¬ AllFree (uat u) x K) : takeR u (K : Int) = ((s : Int), 0, setR u s true K) := by
  obtain ⟨r, hr, he⟩ := fit_least hK h1 h2 h3
  unfold takeR
  rw [if_neg (by omega), Int.toNat_natCast, hr]
  simp [he]

theorem countP_set (u : List Bool) : ∀ j, j < u.length → uat u j = false → (u.set j true).countP id = u.countP id + 1 := by
  induction u with
  | nil => intro j hj; simp at hj
  | cons a u ih =>
    intro j hj hu
    cases j with
    | zero =>
      have : a = false := by simpa [uat] using hu
      subst this
      simp
    | succ j =>
      have := ih j (by simpa using hj) (by simpa [uat] using hu)
      simp only [List.set_cons_succ, List.countP_cons, this]
      omega
theorem used_setR (u : List Bool) (s : Nat) : ∀ n, s + n ≤ u.length → AllFree (uat u) s n → usedR (setR u s true n) = usedR u + n
  | 0, _, _ => rfl
  | n + 1, h, hf => by
    have ih := used_setR u s n (by omega) (fun j h1 h2 => hf j h1 (by omega))
    have hn : uat (setR u s true n) (s + n) = false := by
      rw [setR_at u s true (s + n) n (by omega), if_neg (by omega)]
      exact hf _ (by omega) (by omega)
    unfold usedR at *
    rw [setR, countP_set _ _ (by rw [setR_length]; omega) hn, ih]
    omega
theorem ext_uat {u v : List Bool} (hl : u.length = v.length) (h : ∀ j, uat u j = uat v j) : u = v := by
  apply List.ext_getElem hl
  intro j h1 h2
  have := h j
  simpa [uat, List.getD, h1, h2] using this
theorem setR_back (u : List Bool) (s n : Nat) (h : s + n ≤ u.length) (hf : AllFree (uat u) s n) : setR (setR u s true n) s false n = u := by
  apply ext_uat
  · rw [setR_length, setR_length]
  · intro j
    rw [setR_at _ s false j n (by rw [setR_length]; exact h), setR_at u s true j n h]
    by_cases hj : s ≤ j ∧ j < s + n
    · rw [if_pos hj]; exact (hf j hj.1 hj.2).symm
    · rw [if_neg hj, if_neg hj]
theorem give_back (u : List Bool) (s n : Nat) (hn : 1 ≤ n) (h : s + n ≤ u.length) (hf : AllFree (uat u) s n) : giveR (setR u s true n) (s : Int) (n : Int) = (0, u) ∧ giveR u (s : Int) (n : Int) = (4, u) := by
  have m1 : mayR (setR u s true n) (s : Int) (n : Int) := by
    refine ⟨by omega, by omega, ?_, ?_⟩ <;> rw [setR_length] <;> omega
  have m2 : mayR u (s : Int) (n : Int) := ⟨by omega, by omega, by omega, by omega⟩
  have a1 : allB (setR u s true n) s n true = true := by
    rw [allB_true]
    intro j h1 h2
    rw [setR_at u s true j n h, if_pos ⟨h1, h2⟩]
  have a2 : ¬ allB u s n true = true := by
    rw [allB_true]
    intro hh
    have h1 := hh s (Nat.le_refl _) (by omega)
    have h2 := hf s (Nat.le_refl _) (by omega)
    rw [h1] at h2; cases h2
  refine ⟨?_, ?_⟩
  · unfold giveR
    rw [if_pos m1, Int.toNat_natCast, Int.toNat_natCast, if_pos a1, setR_back u s n h hf]
  · unfold giveR
    rw [if_pos m2, Int.toNat_natCast, Int.toNat_natCast, if_neg a2]

/-! ### The owners' row -/
structure IsOwn (w : World) (bo N : Nat) (ow : Nat → Int) : Prop where
  cs : ∀ j, j < N → w.cell? ⟨bo, j, none⟩ = some (.int .i64 (ow j))
  fz : ∀ j, j < N → w.frozen? ⟨bo, j, none⟩ = false
  bl : bo < w.heap.size
theorem IsOwn.kept {w w' : World} {bo N : Nat} {ow : Nat → Int} {row : Option Nat} (h : IsOwn w bo N ow) (hg : w.grownBy w' row) (h1 : some bo ≠ row) : IsOwn w' bo N ow :=
  ⟨fun j hj => gb_cell hg (h.cs j hj) h1, fun j hj => (World.frozen?_of_block (a := ⟨bo, j, none⟩) (hg.block bo h.bl h1)).trans (h.fz j hj), Nat.lt_of_lt_of_le h.bl hg.size⟩
def upd (ow : Nat → Int) (i : Nat) (v : Int) : Nat → Int := fun j => if j = i then v else ow j
theorem IsOwn.set {w : World} {bo N : Nat} {ow : Nat → Int} (h : IsOwn w bo N ow) {i : Nat} (hi : i < N) (v : Int) : IsOwn (w.setCell ⟨bo, i, none⟩ (.int .i64 v)) bo N (upd ow i v) := by
  have hg := gb_set w ⟨bo, i, none⟩ (.int .i64 v)
  refine ⟨fun k hk => ?_, fun k hk => ?_, Nat.lt_of_lt_of_le h.bl hg.size⟩
  · by_cases hki : k = i
    · subst hki
      have : upd ow k v k = v := by simp [upd]
      rw [this]
      exact World.cell?_setCell_same' _ _ _ (by rw [h.cs k hk]; rfl)
    · have : upd ow i v k = ow k := by simp [upd, hki]
      rw [this, World.cell?_setCell_other]
      · exact h.cs k hk
      · intro e; injection e with _ e; exact hki e.symm
  · rw [World.frozen?_setCell]
    exact h.fz k hk
def fillO (ow : Nat → Int) (s : Nat) (v : Int) : Nat → (Nat → Int)
  | 0 => ow
  | n + 1 => upd (fillO ow s v n) (s + n) v
theorem fillO_at (ow : Nat → Int) (s : Nat) (v : Int) (j : Nat) : ∀ n, fillO ow s v n j = if s ≤ j ∧ j < s + n then v else ow j
  | 0 => by rw [if_neg (by omega)]; rfl
  | n + 1 => by
    have ih := fillO_at ow s v j n
    simp only [fillO, upd]
    by_cases hj : j = s + n
    · rw [if_pos hj, if_pos (by omega)]
    · rw [if_neg hj, ih]
      by_cases h2 : s ≤ j ∧ j < s + n
      · rw [if_pos h2, if_pos (by omega)]
      · rw [if_neg h2, if_neg (by omega)]
/-- A sector has an owner if, and only if, it is used. -/
def Agree (u : List Bool) (ow : Nat → Int) (N : Nat) : Prop := ∀ j, j < N → (ow j = 0 ↔ uat u j = false)
theorem Agree.take {u : List Bool} {ow : Nat → Int} {N s n : Nat} (h : Agree u ow N) (hu : u.length = N) (hs : s + n ≤ N) {v : Int} (hv : v ≠ 0) : Agree (setR u s true n) (fillO ow s v n) N := fun j hj => by
  rw [fillO_at, setR_at u s true j n (by omega)]
  by_cases hc : s ≤ j ∧ j < s + n
  · rw [if_pos hc, if_pos hc]; simp [hv]
  · rw [if_neg hc, if_neg hc]; exact h j hj
theorem Agree.give {u : List Bool} {ow : Nat → Int} {N s n : Nat} {v : Int} (h : Agree u ow N) (hu : u.length = N) (hs : s + n ≤ N) (hf : AllFree (uat u) s n) : Agree u (fillO (fillO ow s v n) s 0 n) N := fun j hj => by
  rw [fillO_at, fillO_at]
  by_cases hc : s ≤ j ∧ j < s + n
  · rw [if_pos hc]; exact ⟨fun _ => hf j hc.1 hc.2, fun _ => rfl⟩
  · rw [if_neg hc, if_neg hc]; exact h j hj
end Go.Proofs.Ythhpdlkkmgmdeaa
