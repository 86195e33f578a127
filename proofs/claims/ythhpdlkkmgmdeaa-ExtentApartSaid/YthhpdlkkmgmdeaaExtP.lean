/-
  Sectors in a row, as a list of Booleans: the free runs, the first fit, what is set: plain laws, no program in sight.
-/
import Derived.Test.YthhpdlkkmgmdeaaRows
set_option linter.unusedVariables false
set_option linter.unusedSimpArgs false
namespace Go.Proofs.Ythhpdlkkmgmdeaa

def bump : List (Nat × Nat) → List (Nat × Nat)
  | [] => []
  | [r] => [(r.1, r.2 + 1)]
  | r :: q :: l => r :: bump (q :: l)
theorem bump_snoc (l : List (Nat × Nat)) (r : Nat × Nat) : bump (l ++ [r]) = l ++ [(r.1, r.2 + 1)] := by
  induction l with
  | nil => rfl
  | cons a l ih =>
    cases l with
    | nil => rfl
    | cons b l => simp only [List.cons_append, bump] at *; rw [ih]

/-- The free runs of the first k sectors. -/
def runsTo (f : Nat → Bool) : Nat → List (Nat × Nat)
  | 0 => []
  | k + 1 => if f k then runsTo f k else if 0 < k ∧ f (k - 1) = false then bump (runsTo f k) else runsTo f k ++ [(k, 1)]

theorem runs_used {f : Nat → Bool} {k : Nat} (h : f k = true) : runsTo f (k + 1) = runsTo f k := by simp [runsTo, h]

theorem runs_ext {f : Nat → Bool} {s : Nat} (hs : s = 0 ∨ f (s - 1) = true) : ∀ e, s < e → (∀ j, s ≤ j → j < e → f j = false) → runsTo f e = runsTo f s ++ [(s, e - s)]
  | 0, h, _ => absurd h (Nat.not_lt_zero _)
  | e + 1, h, hf => by
    have he := hf e (by omega) (by omega)
    by_cases hse : s = e
    · subst hse
      have : ¬ (0 < s ∧ f (s - 1) = false) := by
        rintro ⟨h1, h2⟩
        rcases hs with h | h
        · omega
        · rw [h] at h2; cases h2
      simp only [runsTo, he, Bool.false_eq_true, if_false, if_neg this]
      rw [show s + 1 - s = 1 by omega]
    · have ih := runs_ext hs e (by omega) (fun j h1 h2 => hf j h1 (by omega))
      have h2 : 0 < e ∧ f (e - 1) = false := ⟨by omega, hf _ (by omega) (by omega)⟩
      simp only [runsTo, he, Bool.false_eq_true, if_false, if_pos h2]
      rw [ih, bump_snoc]
      simp only
      rw [show e + 1 - s = e - s + 1 by omega]

theorem run_start (f : Nat → Bool) : ∀ m, f m = false → ∃ s, s ≤ m ∧ (s = 0 ∨ f (s - 1) = true) ∧ ∀ j, s ≤ j → j < m + 1 → f j = false
  | 0, h => ⟨0, Nat.le_refl _, .inl rfl, fun j h1 h2 => by
      have h3 : j = 0 := by omega
      subst h3
      exact h⟩
  | m + 1, h => by
    cases hm : f m with
    | true => exact ⟨m + 1, Nat.le_refl _, .inr (by simpa using hm), fun j h1 h2 => by
      have h3 : j = m + 1 := by omega
      subst h3
      exact h⟩
    | false =>
      obtain ⟨s, h1, h2, h3⟩ := run_start f m hm
      exact ⟨s, by omega, h2, fun j h4 h5 => by
        by_cases hj : j = m + 1
        · subst hj; exact h
        · exact h3 j h4 (by omega)⟩

structure RunsOK (f : Nat → Bool) (k : Nat) (l : List (Nat × Nat)) : Prop where
  pos : ∀ r ∈ l, 0 < r.2
  le : ∀ r ∈ l, r.1 + r.2 ≤ k
  free : ∀ r ∈ l, ∀ j, r.1 ≤ j → j < r.1 + r.2 → f j = false
  lo : ∀ r ∈ l, r.1 = 0 ∨ f (r.1 - 1) = true
  hi : ∀ r ∈ l, r.1 + r.2 = k ∨ f (r.1 + r.2) = true
  sorted : l.Pairwise fun a b => a.1 + a.2 < b.1
  all : ∀ j, j < k → f j = false → ∃ r ∈ l, r.1 ≤ j ∧ j < r.1 + r.2

theorem runsOK (f : Nat → Bool) (k : Nat) : RunsOK f k (runsTo f k) := by
  induction k using Nat.strongRecOn with
  | ind k ih =>
    cases k with
    | zero => exact ⟨by simp [runsTo], by simp [runsTo], by simp [runsTo], by simp [runsTo], by simp [runsTo], by simp [runsTo], fun j h => absurd h (Nat.not_lt_zero _)⟩
    | succ m =>
      cases hm : f m with
      | true =>
        rw [runs_used hm]
        have h := ih m (by omega)
        refine ⟨h.pos, fun r hr => by have := h.le r hr; omega, h.free, h.lo, fun r hr => ?_, h.sorted, fun j hj hf => ?_⟩
        · rcases h.hi r hr with h1 | h1
          · right; rw [h1]; exact hm
          · exact .inr h1
        · by_cases hjm : j = m
          · subst hjm; rw [hm] at hf; cases hf
          · exact h.all j (by omega) hf
      | false =>
        obtain ⟨s, h1, h2, h3⟩ := run_start f m hm
        rw [runs_ext h2 (m + 1) (by omega) h3]
        have h := ih s (by omega)
        have hlt : ∀ r ∈ runsTo f s, r.1 + r.2 < s := fun r hr => by
          have a := h.le r hr
          have b := h.pos r hr
          rcases Nat.lt_or_ge (r.1 + r.2) s with h4 | h4
          · exact h4
          · have h5 : r.1 + r.2 = s := by omega
            have h6 := h.free r hr (s - 1) (by omega) (by omega)
            rcases h2 with h7 | h7
            · omega
            · rw [h6] at h7; cases h7
        refine ⟨fun r hr => ?_, fun r hr => ?_, fun r hr => ?_, fun r hr => ?_, fun r hr => ?_, ?_, fun j hj hf => ?_⟩
        · rcases List.mem_append.1 hr with h4 | h4
          · exact h.pos r h4
          · simp at h4; subst h4; simp; omega
        · rcases List.mem_append.1 hr with h4 | h4
          · have := h.le r h4; omega
          · simp at h4; subst h4; simp; omega
        · rcases List.mem_append.1 hr with h4 | h4
          · exact h.free r h4
          · simp at h4; subst h4; intro j h5 h6; exact h3 j h5 (by simp at h6; omega)
        · rcases List.mem_append.1 hr with h4 | h4
          · exact h.lo r h4
          · simp at h4; subst h4; exact h2
        · rcases List.mem_append.1 hr with h4 | h4
          · right
            rcases h.hi r h4 with h5 | h5
            · have := hlt r h4; omega
            · exact h5
          · simp at h4; subst h4; left; simp; omega
        · rw [List.pairwise_append]
          refine ⟨h.sorted, by simp, fun a ha b hb => ?_⟩
          simp at hb; subst hb
          exact hlt a ha
        · by_cases hjs : j < s
          · obtain ⟨r, hr, h4⟩ := h.all j hjs hf
            exact ⟨r, List.mem_append_left _ hr, h4⟩
          · exact ⟨(s, m + 1 - s), by simp, by simp; omega, by simp; omega⟩

/-- All are free from at on, so many. -/
def AllFree (f : Nat → Bool) (at_ n : Nat) : Prop := ∀ j, at_ ≤ j → j < at_ + n → f j = false

theorem in_run {f : Nat → Bool} {k : Nat} {l : List (Nat × Nat)} (h : RunsOK f k l) {at_ n : Nat} (hn : 1 ≤ n) (hk : at_ + n ≤ k) (ha : AllFree f at_ n) : ∃ r ∈ l, r.1 ≤ at_ ∧ at_ + n ≤ r.1 + r.2 := by
  obtain ⟨r, hr, h1, h2⟩ := h.all at_ (by omega) (ha at_ (Nat.le_refl _) (by omega))
  refine ⟨r, hr, h1, ?_⟩
  rcases Nat.lt_or_ge (r.1 + r.2) (at_ + n) with h3 | h3
  · rcases h.hi r hr with h4 | h4
    · omega
    · have := ha (r.1 + r.2) (by omega) h3; rw [this] at h4; cases h4
  · exact h3

theorem fit_some {f : Nat → Bool} {k n : Nat} (hn : 1 ≤ n) {r : Nat × Nat} (h : (runsTo f k).find? (fun r => decide (n ≤ r.2)) = some r) :
    AllFree f r.1 n ∧ r.1 + n ≤ k ∧ ∀ a, a < r.1 → ¬ AllFree f a n := by
  have hok := runsOK f k
  have hm := List.mem_of_find?_eq_some h
  have hp : n ≤ r.2 := by have := List.find?_some h; simpa using this
  refine ⟨fun j h1 h2 => hok.free r hm j h1 (by omega), by have := hok.le r hm; omega, fun a ha hA => ?_⟩
  have hk : a + n ≤ k := by have := hok.le r hm; omega
  obtain ⟨q, hq, h1, h2⟩ := in_run hok hn hk hA
  rw [List.find?_eq_some_iff_append] at h
  obtain ⟨_, la, lb, he, hno⟩ := h
  rw [he] at hq
  have hs := hok.sorted
  rw [he, List.pairwise_append] at hs
  rcases List.mem_append.1 hq with h3 | h3
  · have := hno q h3; simp at this; omega
  · rcases List.mem_cons.1 h3 with h4 | h4
    · subst h4; omega
    · have := (List.pairwise_cons.1 hs.2.1).1 q h4; omega

theorem fit_none {f : Nat → Bool} {k n : Nat} (hn : 1 ≤ n) (h : (runsTo f k).find? (fun r => decide (n ≤ r.2)) = none) : ∀ a, a + n ≤ k → ¬ AllFree f a n := fun a ha hA => by
  obtain ⟨q, hq, h1, h2⟩ := in_run (runsOK f k) hn ha hA
  have := List.find?_eq_none.1 h q hq
  simp at this
  omega

theorem fit_least {f : Nat → Bool} {k n a : Nat} (hn : 1 ≤ n) (h1 : AllFree f a n) (h2 : a + n ≤ k) (h3 : ∀ b, b < a → ¬ AllFree f b n) : ∃ r, (runsTo f k).find? (fun r => decide (n ≤ r.2)) = some r ∧ r.1 = a := by
  cases h : (runsTo f k).find? (fun r => decide (n ≤ r.2)) with
  | none => exact absurd h1 (fit_none hn h a h2)
  | some r =>
    obtain ⟨q1, q2, q3⟩ := fit_some hn h
    refine ⟨r, rfl, ?_⟩
    rcases Nat.lt_trichotomy r.1 a with h4 | h4 | h4
    · exact absurd q1 (h3 _ h4)
    · exact h4
    · exact absurd h1 (q3 _ h4)
theorem fit_no {f : Nat → Bool} {k n : Nat} (hn : 1 ≤ n) (h3 : ∀ b, b + n ≤ k → ¬ AllFree f b n) : (runsTo f k).find? (fun r => decide (n ≤ r.2)) = none := by
  cases h : (runsTo f k).find? (fun r => decide (n ≤ r.2)) with
  | none => rfl
  | some r =>
    obtain ⟨q1, q2, q3⟩ := fit_some hn h
    exact absurd q1 (h3 _ q2)

/-! ### The state: which sectors are used -/
abbrev uat (u : List Bool) : Nat → Bool := fun j => u.getD j true

def setR (u : List Bool) (s : Nat) (v : Bool) : Nat → List Bool
  | 0 => u
  | n + 1 => (setR u s v n).set (s + n) v
theorem setR_length (u : List Bool) (s : Nat) (v : Bool) : ∀ n, (setR u s v n).length = u.length
  | 0 => rfl
  | n + 1 => by simp [setR, setR_length u s v n]
theorem setR_at (u : List Bool) (s : Nat) (v : Bool) (j : Nat) : ∀ n, s + n ≤ u.length → uat (setR u s v n) j = if s ≤ j ∧ j < s + n then v else uat u j
  | 0, _ => by rw [if_neg (by omega)]; rfl
  | n + 1, h => by
    have ih := setR_at u s v j n (by omega)
    have hl := setR_length u s v n
    simp only [uat, setR, List.getD] at *
    rw [List.getElem?_set]
    by_cases hj : s + n = j
    · rw [if_pos hj, if_pos (by omega), if_pos (by omega)]; rfl
    · rw [if_neg hj, ih]
      by_cases h2 : s ≤ j ∧ j < s + n
      · rw [if_pos h2, if_pos (by omega)]
      · rw [if_neg h2, if_neg (by omega)]

def allB (u : List Bool) (s n : Nat) (v : Bool) : Bool := (List.range n).all fun i => uat u (s + i) == v
theorem allB_true {u : List Bool} {s n : Nat} {v : Bool} : allB u s n v = true ↔ ∀ j, s ≤ j → j < s + n → uat u j = v := by
  unfold allB
  rw [List.all_eq_true]
  constructor
  · intro h j h1 h2
    have := h (j - s) (List.mem_range.2 (by omega))
    rw [show s + (j - s) = j by omega] at this
    exact eq_of_beq this
  · intro h i hi
    rw [List.mem_range] at hi
    rw [h (s + i) (by omega) (by omega)]
    exact beq_self_eq_true v
theorem allB_succ (u : List Bool) (s n : Nat) (v : Bool) : allB u s (n + 1) v = (allB u s n v && (uat u (s + n) == v)) := by
  simp [allB, List.range_succ, List.all_append]

def mayR (u : List Bool) (s n : Int) : Prop := 1 ≤ n ∧ 0 ≤ s ∧ s < u.length ∧ n ≤ u.length - s
instance (u : List Bool) (s n : Int) : Decidable (mayR u s n) := by unfold mayR; infer_instance

/-- What Claim answers and leaves. -/
def claimR (u : List Bool) (s n : Int) : Int × List Bool := if mayR u s n then (if allB u s.toNat n.toNat false then (0, setR u s.toNat true n.toNat) else (5, u)) else (1, u)
def giveR (u : List Bool) (s n : Int) : Int × List Bool := if mayR u s n then (if allB u s.toNat n.toNat true then (0, setR u s.toNat false n.toNat) else (4, u)) else (1, u)
def takeR (u : List Bool) (n : Int) : Int × Int × List Bool :=
  if n < 1 then (0, 1, u) else
    match (runsTo (uat u) u.length).find? (fun r => decide (n.toNat ≤ r.2)) with
    | some r => ((r.1 : Int), 0, setR u r.1 true n.toNat)
    | none => (0, 6, u)
def usedR (u : List Bool) : Nat := u.countP id
theorem claimR_length (u : List Bool) (s n : Int) : (claimR u s n).2.length = u.length := by unfold claimR; split <;> (try split) <;> simp [setR_length]
theorem giveR_length (u : List Bool) (s n : Int) : (giveR u s n).2.length = u.length := by unfold giveR; split <;> (try split) <;> simp [setR_length]
theorem takeR_length (u : List Bool) (n : Int) : (takeR u n).2.2.length = u.length := by unfold takeR; split <;> (try split) <;> simp [setR_length]
end Go.Proofs.Ythhpdlkkmgmdeaa
