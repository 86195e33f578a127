/-
  The plain law of ExtentFree: the free runs and the used sectors are the whole; the runs can be claimed one by one, and then all is used.
-/
import Derived.Test.YthhpdlkkmgmdeaaExtB
set_option linter.unusedVariables false
set_option linter.unusedSimpArgs false
namespace Go.Proofs.Ythhpdlkkmgmdeaa

def sumR (l : List (Nat × Nat)) : Nat := (l.map (·.2)).sum
theorem sumR_append (l m : List (Nat × Nat)) : sumR (l ++ m) = sumR l + sumR m := by simp [sumR]
theorem sumR_take_succ (l : List (Nat × Nat)) (k : Nat) (r : Nat × Nat) (h : l[k]? = some r) : sumR (l.take (k + 1)) = sumR (l.take k) + r.2 := by
  rw [List.take_add_one, h, sumR_append]
  simp [sumR]

theorem sum_used (u : List Bool) : ∀ k, k ≤ u.length → sumR (runsTo (uat u) k) + cntR u k = k
  | 0, _ => by simp [runsTo, sumR, cntR]
  | k + 1, hk => by
    have ih := sum_used u k (by omega)
    have hc := cntR_succ u k (by omega)
    cases hu : uat u k with
    | true =>
      rw [hu] at hc
      rw [runs_used hu, hc]
      simp
      omega
    | false =>
      rw [hu] at hc
      simp at hc
      rw [hc]
      by_cases hp : 0 < k ∧ uat u (k - 1) = false
      · obtain ⟨r0, hr0, _⟩ := (runsOK (uat u) k).all (k - 1) (by omega) hp.2
        obtain ⟨ini, r, hir⟩ : ∃ ini r, runsTo (uat u) k = ini ++ [r] := by
          rcases List.eq_nil_or_concat (runsTo (uat u) k) with h | ⟨L, x, h⟩
          · rw [h] at hr0; cases hr0
          · exact ⟨L, x, by rw [h]; simp⟩
        have e : runsTo (uat u) (k + 1) = ini ++ [(r.1, r.2 + 1)] := by rw [runsTo, hu, if_neg (by simp), if_pos hp, hir, bump_snoc]
        rw [hir, sumR_append] at ih
        rw [e, sumR_append]
        simp [sumR] at ih ⊢
        omega
      · have e : runsTo (uat u) (k + 1) = runsTo (uat u) k ++ [(k, 1)] := by rw [runsTo, hu, if_neg (by simp), if_neg hp]
        rw [e, sumR_append]
        simp [sumR] at ih ⊢
        omega

/-- The runs claimed one behind the other. -/
def claimAll (u : List Bool) : List (Nat × Nat) → List Bool
  | [] => u
  | r :: l => claimAll (setR u r.1 true r.2) l
theorem claimAll_snoc (u : List Bool) (l : List (Nat × Nat)) (r : Nat × Nat) : claimAll u (l ++ [r]) = setR (claimAll u l) r.1 true r.2 := by
  induction l generalizing u with
  | nil => rfl
  | cons a l ih => simp only [List.cons_append, claimAll]; exact ih _
theorem claimAll_length (u : List Bool) (l : List (Nat × Nat)) : (claimAll u l).length = u.length := by
  induction l generalizing u with
  | nil => rfl
  | cons a l ih => simp only [claimAll]; rw [ih, setR_length]
theorem claimAll_at (u : List Bool) (l : List (Nat × Nat)) (h : ∀ r ∈ l, r.1 + r.2 ≤ u.length) (j : Nat) : uat (claimAll u l) j = true ↔ uat u j = true ∨ ∃ r ∈ l, r.1 ≤ j ∧ j < r.1 + r.2 := by
  induction l generalizing u with
  | nil => simp [claimAll]
  | cons a l ih =>
    have ha := h a (by simp)
    rw [claimAll, ih _ (fun r hr => by rw [setR_length]; exact h r (by simp [hr])), setR_at u a.1 true j a.2 ha]
    constructor
    · rintro (h1 | ⟨r, hr, h2⟩)
      · split at h1
        · rename_i hc; exact .inr ⟨a, by simp, hc⟩
        · exact .inl h1
      · exact .inr ⟨r, by simp [hr], h2⟩
    · rintro (h1 | ⟨r, hr, h2⟩)
      · left; split <;> first | rfl | exact h1
      · rcases List.mem_cons.1 hr with rfl | hr
        · left; rw [if_pos h2]
        · exact .inr ⟨r, hr, h2⟩

theorem claim_next (u : List Bool) (k : Nat) (r : Nat × Nat) (hr : (runsTo (uat u) u.length)[k]? = some r) :
    claimR (claimAll u ((runsTo (uat u) u.length).take k)) (r.1 : Int) (r.2 : Int) = (0, claimAll u ((runsTo (uat u) u.length).take (k + 1))) := by
  have hok := runsOK (uat u) u.length
  have hm : r ∈ runsTo (uat u) u.length := List.mem_of_getElem? hr
  have hle := hok.le r hm
  have hpos := hok.pos r hm
  have hl := claimAll_length u ((runsTo (uat u) u.length).take k)
  have hmay : mayR (claimAll u ((runsTo (uat u) u.length).take k)) (r.1 : Int) (r.2 : Int) := by
    refine ⟨by omega, by omega, ?_, ?_⟩ <;> rw [hl] <;> omega
  have hall : allB (claimAll u ((runsTo (uat u) u.length).take k)) r.1 r.2 false = true := by
    rw [allB_true]
    intro j h1 h2
    cases hv : uat (claimAll u ((runsTo (uat u) u.length).take k)) j with
    | false => rfl
    | true =>
      rw [claimAll_at u _ (fun q hq => hok.le q (List.mem_of_mem_take hq))] at hv
      rcases hv with hv | ⟨q, hq, h3, h4⟩
      · have := hok.free r hm j h1 h2; rw [this] at hv; cases hv
      · have hs := hok.sorted
        rw [← List.take_append_drop k (runsTo (uat u) u.length), List.pairwise_append] at hs
        have hrd : r ∈ (runsTo (uat u) u.length).drop k := by
          rw [List.mem_iff_getElem?]
          exact ⟨0, by rw [List.getElem?_drop]; simpa using hr⟩
        have := hs.2.2 q hq r hrd
        omega
  unfold claimR
  rw [if_pos hmay, Int.toNat_natCast, Int.toNat_natCast, hall, if_pos rfl, List.take_add_one, hr]
  simp only [Option.toList_some]
  rw [claimAll_snoc]

theorem all_used {v : List Bool} (h : ∀ j, j < v.length → uat v j = true) : usedR v = v.length ∧ runsTo (uat v) v.length = [] := by
  refine ⟨?_, ?_⟩
  · unfold usedR
    rw [List.countP_eq_length]
    intro x hx
    obtain ⟨j, hj, rfl⟩ := List.mem_iff_getElem.1 hx
    have := h j hj
    simpa [uat, List.getD, hj] using this
  · have : ∀ k, k ≤ v.length → runsTo (uat v) k = [] := by
      intro k
      induction k with
      | zero => intro _; rfl
      | succ k ih => intro hk; rw [runs_used (h k (by omega))]; exact ih (by omega)
    exact this _ (Nat.le_refl _)

theorem claim_end (u : List Bool) : usedR (claimAll u (runsTo (uat u) u.length)) = u.length ∧ runsTo (uat (claimAll u (runsTo (uat u) u.length))) u.length = [] := by
  have hok := runsOK (uat u) u.length
  have hl := claimAll_length u (runsTo (uat u) u.length)
  have h := all_used (v := claimAll u (runsTo (uat u) u.length)) (fun j hj => by
    rw [hl] at hj
    rw [claimAll_at u _ (fun q hq => hok.le q hq)]
    cases hu : uat u j with
    | true => exact .inl rfl
    | false => exact .inr (hok.all j hj hu))
  rw [hl] at h
  exact h

theorem runs_gap (u : List Bool) (k : Nat) (p r : Nat × Nat) (hp : (runsTo (uat u) u.length)[k]? = some p) (hr : (runsTo (uat u) u.length)[k + 1]? = some r) : p.1 + p.2 < r.1 := by
  have hs := (runsOK (uat u) u.length).sorted
  rw [List.pairwise_iff_getElem] at hs
  obtain ⟨h1, e1⟩ := List.getElem?_eq_some_iff.1 hp
  obtain ⟨h2, e2⟩ := List.getElem?_eq_some_iff.1 hr
  have := hs k (k + 1) h1 h2 (by omega)
  rw [e1, e2] at this
  exact this

theorem sum_le (u : List Bool) (k : Nat) : sumR ((runsTo (uat u) u.length).take k) ≤ u.length := by
  have h := sum_used u u.length (Nat.le_refl _)
  have e := List.take_append_drop k (runsTo (uat u) u.length)
  have h2 : sumR ((runsTo (uat u) u.length).take k) + sumR ((runsTo (uat u) u.length).drop k) = sumR (runsTo (uat u) u.length) := by rw [← sumR_append, e]
  omega
theorem runs_bd (u : List Bool) (r : Nat × Nat) (h : r ∈ runsTo (uat u) u.length) : 1 ≤ r.2 ∧ r.1 + r.2 ≤ u.length := ⟨(runsOK (uat u) u.length).pos r h, (runsOK (uat u) u.length).le r h⟩
end Go.Proofs.Ythhpdlkkmgmdeaa
