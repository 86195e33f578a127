/-
  The small functions on sectors: set, mark, all, Contains, may, in, Used, each at any state.
-/
import Derived.Test.YthhpdlkkmgmdeaaExtM
set_option linter.unusedVariables false
set_option linter.unusedSimpArgs false
namespace Go.Proofs.Ythhpdlkkmgmdeaa
open Go Go.RowKit

abbrev ptrV (g : Nat) : Value := .pointer (some ⟨g, 0, none⟩)

set_option maxRecDepth 100000 in
theorem set_any (g b c : Nat) (u : List Bool) (s n : Nat) (v : Bool) (w : World) (h : IsExt w g b c 51 u) (hs : s + n ≤ u.length) (hb : u.length ≤ 1000000) :
    Calls Try.prog 23 #[ptrV g, .int .i64 s, .int .i64 n, .bool v] w fun e w' => (∃ r, e = .returned r) ∧ IsExt w' g b c 51 (setR u s v n) ∧ w.grownBy w' (some b) := by
  go_enter Try.func23, Try.ntmps23
  go_wp2_with fail
  go_loopw [10] (fun i wr => ∃ k : Nat, i = .int .i64 (k : Int) ∧ k ≤ n ∧ IsExt wr g b c 51 (setR u s v k) ∧ w.grownBy wr (some b)) (fun i _ => n - (intOf i).toNat)
  case atStart => exact ⟨0, rfl, by omega, h, gb_refl _ _⟩
  case round =>
    clear h
    obtain ⟨k, rfl, hkn, hI, hg⟩ := ‹∃ k : Nat, _›
    have hl := setR_length u s v k
    by_cases hlt : k < n
    · have hltI : (k : Int) < (n : Int) := by omega
      have c0 := hI.cell0
      rw [hl] at c0
      have c1 := hI.cs (s + k) (by omega)
      have f1 := hI.fz (s + k) (by omega)
      have hj : ((s : Int) + (k : Int)) < (u.length : Int) := by omega
      have hI2 := hI.set (j := s + k) (by omega) v
      have hg2 := gb_trans hg (gb_set _ ⟨b, s + k, none⟩ (.bool v))
      have HI : Hid _ := hI2
      have HG : Hid _ := hg2
      clear hI hg hI2 hg2 hl
      go_wp2_with fail
      go_roundw
      case rel => exact ⟨k + 1, rfl, by omega, HI.out, HG.out⟩
      case measure => simp [intOf]; omega
    · have hkn : k = n := by omega
      subst hkn
      go_wp2_with fail
      go_end0
      exact ⟨⟨_, rfl⟩, hI, hg⟩

set_option maxRecDepth 100000 in
theorem mark_any (g b c : Nat) (u : List Bool) (s n : Nat) (v : Bool) (w : World) (h : IsExt w g b c 53 u) (hs : s + n ≤ u.length) (hb : u.length ≤ 1000000) :
    Calls Try.prog 26 #[ptrV g, .int .i64 s, .int .i64 n, .bool v] w fun e w' => (∃ r, e = .returned r) ∧ IsExt w' g b c 53 (setR u s v n) ∧ w.grownBy w' (some b) := by
  go_enter Try.func26, Try.ntmps26
  go_wp2_with fail
  go_loopw [8] (fun i wr => ∃ k : Nat, i = .int .i64 ((s : Int) + (k : Int)) ∧ k ≤ n ∧ IsExt wr g b c 53 (setR u s v k) ∧ w.grownBy wr (some b)) (fun i _ => s + n - (intOf i).toNat)
  case atStart => exact ⟨0, by simp, by omega, h, gb_refl _ _⟩
  case round =>
    clear h
    obtain ⟨k, rfl, hkn, hI, hg⟩ := ‹∃ k : Nat, _›
    have hl := setR_length u s v k
    by_cases hlt : k < n
    · have hltI : (s : Int) + (k : Int) < (s : Int) + (n : Int) := by omega
      have c0 := hI.cell0
      rw [hl] at c0
      have c1 := hI.cs (s + k) (by omega)
      have f1 := hI.fz (s + k) (by omega)
      have hj : ((s : Int) + (k : Int)) < (u.length : Int) := by omega
      have hI2 := hI.set (j := s + k) (by omega) v
      have hg2 := gb_trans hg (gb_set _ ⟨b, s + k, none⟩ (.bool v))
      have HI : Hid _ := hI2
      have HG : Hid _ := hg2
      clear hI hg hI2 hg2 hl
      go_wp2_with fail
      go_roundw
      case rel => exact ⟨k + 1, by go_num, by omega, HI.out, HG.out⟩
      case measure => simp [intOf]; omega
    · have hkn : k = n := by omega
      subst hkn
      have hltI : ¬ (s : Int) + (k : Int) < (s : Int) + (k : Int) := by omega
      go_wp2_with fail
      go_end0
      exact ⟨⟨_, rfl⟩, hI, hg⟩

set_option maxRecDepth 100000 in
theorem all_any (g b c : Nat) (u : List Bool) (s n : Nat) (v : Bool) (w : World) (h : IsExt w g b c 53 u) (hs : s + n ≤ u.length) (hb : u.length ≤ 1000000) :
    Calls Try.prog 25 #[ptrV g, .int .i64 s, .int .i64 n, .bool v] w fun e w' => e = .returned (.bool (allB u s n v)) ∧ w = w' := by
  go_enter Try.func25, Try.ntmps25
  go_wp2_with fail
  have c0 := h.cell0
  go_loopw [9] (fun i wr => ∃ k : Nat, i = .int .i64 ((s : Int) + (k : Int)) ∧ k ≤ n ∧ allB u s k v = true ∧ w = wr) (fun i _ => s + n - (intOf i).toNat)
  case atStart => exact ⟨0, by simp, by omega, rfl, rfl⟩
  case round =>
    obtain ⟨k, rfl, hkn, hA, rfl⟩ := ‹∃ k : Nat, _›
    by_cases hlt : k < n
    · have hltI : (s : Int) + (k : Int) < (s : Int) + (n : Int) := by omega
      have c1 := h.cs (s + k) (by omega)
      have hj : ((s : Int) + (k : Int)) < (u.length : Int) := by omega
      have hN := allB_succ u s k v
      rw [hA, Bool.true_and] at hN
      have HN : Hid _ := hN
      have HF : allB u s (k + 1) v = false → allB u s n v = false := fun hf => by
        cases hh : allB u s n v with
        | false => rfl
        | true => rw [allB_true.2 (fun j h1 h2 => allB_true.1 hh j h1 (by omega))] at hf; cases hf
      have HF : Hid _ := HF
      have HH : Hid _ := h
      clear hA hN h
      generalize uat u (s + k) = x at *
      cases x <;> cases v
      · go_wp2_with fail
        go_roundw
        case rel => exact ⟨k + 1, by go_num, by omega, HN.out, by trivial⟩
        case measure => simp [intOf]; omega
      · go_wp2_with fail
        go_ret
        exact ⟨ret_bool (HF.out HN.out).symm, rfl⟩
      · go_wp2_with fail
        go_ret
        exact ⟨ret_bool (HF.out HN.out).symm, rfl⟩
      · go_wp2_with fail
        go_roundw
        case rel => exact ⟨k + 1, by go_num, by omega, HN.out, by trivial⟩
        case measure => simp [intOf]; omega
    · have hkn : k = n := by omega
      subst hkn
      have hltI : ¬ (s : Int) + (k : Int) < (s : Int) + (k : Int) := by omega
      go_wp2_with fail
      go_ret
      exact ⟨by first | rfl | exact ret_bool hA.symm, rfl⟩

/-- Is one of them v? -/
def hasB (u : List Bool) (s n : Nat) (v : Bool) : Bool := !allB u s n (!v)

set_option maxRecDepth 100000 in
theorem index_any (b c : Nat) (u : List Bool) (s n : Nat) (v : Bool) (w : World) (hcs : ∀ j, j < u.length → w.cell? ⟨b, j, none⟩ = some (.bool (uat u j))) (hs : s + n ≤ u.length) (hb : u.length ≤ 1000000) :
    Calls Try.prog 31 #[.slice (some ⟨b, s, none⟩) n c, .bool v] w fun e w' => ∃ r : Int, e = .returned (.int .i64 r) ∧ decide (0 ≤ r) = hasB u s n v ∧ w = w' := by
  go_enter Try.func31, Try.ntmps31
  go_wp2_with fail
  go_loopw [8] (fun i wr => ∃ k : Nat, i = .int .i64 (k : Int) ∧ k ≤ n ∧ allB u s k (!v) = true ∧ w = wr) (fun i _ => n - (intOf i).toNat)
  case atStart => exact ⟨0, by simp, by omega, rfl, rfl⟩
  case round =>
    obtain ⟨k, rfl, hkn, hA, rfl⟩ := ‹∃ k : Nat, _›
    by_cases hlt : k < n
    · have hltI : (k : Int) < (n : Int) := by omega
      have c1 := hcs (s + k) (by omega)
      have hN := allB_succ u s k (!v)
      rw [hA, Bool.true_and] at hN
      have HN : Hid _ := hN
      have HF : allB u s (k + 1) (!v) = false → hasB u s n v = true := fun hf => by
        unfold hasB
        cases hh : allB u s n (!v) with
        | false => rfl
        | true => rw [allB_true.2 (fun j h1 h2 => allB_true.1 hh j h1 (by omega))] at hf; cases hf
      have HF : Hid _ := HF
      clear hA hN hcs
      generalize uat u (s + k) = x at *
      cases x <;> cases v
      · go_wp2_with fail
        go_ret
        exact ⟨(k : Int), rfl, by rw [HF.out HN.out]; simp, rfl⟩
      · go_wp2_with fail
        go_roundw
        case rel => exact ⟨k + 1, by go_num, by omega, HN.out, by trivial⟩
        case measure => simp [intOf]; omega
      · go_wp2_with fail
        go_roundw
        case rel => exact ⟨k + 1, by go_num, by omega, HN.out, by trivial⟩
        case measure => simp [intOf]; omega
      · go_wp2_with fail
        go_ret
        exact ⟨(k : Int), rfl, by rw [HF.out HN.out]; simp, rfl⟩
    · have hkn : k = n := by omega
      subst hkn
      have hltI : ¬ (k : Int) < (k : Int) := by omega
      go_wp2_with fail
      go_ret
      exact ⟨-1, rfl, by unfold hasB; rw [hA]; rfl, rfl⟩

set_option maxRecDepth 100000 in
theorem contains_any (b c : Nat) (u : List Bool) (s n : Nat) (v : Bool) (w : World) (hcs : ∀ j, j < u.length → w.cell? ⟨b, j, none⟩ = some (.bool (uat u j))) (hs : s + n ≤ u.length) (hb : u.length ≤ 1000000) :
    Calls Try.prog 28 #[.slice (some ⟨b, s, none⟩) n c, .bool v] w fun e w' => e = .returned (.bool (hasB u s n v)) ∧ w = w' := by
  have H : Hid _ := index_any b c u s n v w hcs hs hb
  clear hcs
  go_enter Try.func28, Try.ntmps28
  go_wp2_with fail
  refine Calls.mono H ?_
  rintro e w' ⟨r, rfl, hr, rfl⟩
  go_wp2_with fail
  go_ret
  exact ⟨ret_bool (by simp), rfl⟩

set_option maxRecDepth 100000 in
theorem may_any (g b c : Nat) (u : List Bool) (s n : Int) (w : World) (h : IsExt w g b c 51 u) (hb : u.length ≤ 1000000) (hs : -9223372036854775808 ≤ s ∧ s ≤ 9223372036854775807) (hn : -9223372036854775808 ≤ n ∧ n ≤ 9223372036854775807) :
    Calls Try.prog 27 #[ptrV g, .int .i64 s, .int .i64 n] w fun e w' => e = .returned (.bool (decide (mayR u s n))) ∧ w = w' := by
  have c0 := h.cell0
  have HH : Hid _ := h
  clear h
  generalize hL : u.length = L at *
  have HM : Hid (mayR u s n ↔ (1 ≤ n ∧ 0 ≤ s ∧ s < (L : Int) ∧ n ≤ (L : Int) - s)) := by show _ ↔ _; unfold mayR; rw [hL]
  clear hL
  go_enter Try.func27, Try.ntmps27
  by_cases h1 : 1 ≤ n
  · have d1 : decide (1 ≤ n) = true := by simp; omega
    by_cases h2 : 0 ≤ s
    · have d2 : decide (0 ≤ s) = true := by simp; omega
      by_cases h3 : s < (L : Int)
      · have d3 : decide (s < (L : Int)) = true := by simp; omega
        by_cases h4 : n ≤ (L : Int) - s
        · have d4 : decide (n ≤ (L : Int) - s) = true := by simp; omega
          go_wp2_with fail
          go_ret
          exact ⟨ret_bool (decide_eq_true (HM.out.2 ⟨h1, h2, h3, h4⟩)).symm, rfl⟩
        · have d4 : decide (n ≤ (L : Int) - s) = false := by simp; omega
          go_wp2_with fail
          go_ret
          exact ⟨ret_bool (decide_eq_false (fun h => by have := HM.out.1 h; omega)).symm, rfl⟩
      · have d3 : decide (s < (L : Int)) = false := by simp; omega
        go_wp2_with fail
        go_ret
        exact ⟨ret_bool (decide_eq_false (fun h => by have := HM.out.1 h; omega)).symm, rfl⟩
    · have d2 : decide (0 ≤ s) = false := by simp; omega
      go_wp2_with fail
      go_ret
      exact ⟨ret_bool (decide_eq_false (fun h => by have := HM.out.1 h; omega)).symm, rfl⟩
  · have d1 : decide (1 ≤ n) = false := by simp; omega
    go_wp2_with fail
    go_ret
    exact ⟨ret_bool (decide_eq_false (fun h => by have := HM.out.1 h; omega)).symm, rfl⟩

theorem may_nil (s n : Int) (w : World) : Calls Try.prog 27 #[.pointer none, .int .i64 s, .int .i64 n] w fun e w' => e = .returned (.bool false) ∧ w = w' := by
  go_enter Try.func27, Try.ntmps27
  go_wp2_with fail
  go_ret
  exact ⟨rfl, rfl⟩

set_option maxRecDepth 100000 in
theorem in_any (g b c : Nat) (u : List Bool) (s n : Int) (w : World) (h : IsExt w g b c 53 u) (hb : u.length ≤ 1000000) (hs : -9223372036854775808 ≤ s ∧ s ≤ 9223372036854775807) (hn : -9223372036854775808 ≤ n ∧ n ≤ 9223372036854775807) :
    Calls Try.prog 24 #[ptrV g, .int .i64 s, .int .i64 n] w fun e w' => e = .returned (.bool (decide (mayR u s n))) ∧ w = w' := by
  have c0 := h.cell0
  have HH : Hid _ := h
  clear h
  generalize hL : u.length = L at *
  have HM : Hid (mayR u s n ↔ (1 ≤ n ∧ 0 ≤ s ∧ s ≤ (L : Int) ∧ n ≤ (L : Int) - s)) := by show _ ↔ _; unfold mayR; rw [hL]; omega
  clear hL
  go_enter Try.func24, Try.ntmps24
  by_cases h1 : 1 ≤ n
  · have d1 : decide (1 ≤ n) = true := by simp; omega
    by_cases h2 : 0 ≤ s
    · have d2 : decide (0 ≤ s) = true := by simp; omega
      by_cases h3 : s ≤ (L : Int)
      · have d3 : decide (s ≤ (L : Int)) = true := by simp; omega
        by_cases h4 : n ≤ (L : Int) - s
        · have d4 : decide (n ≤ (L : Int) - s) = true := by simp; omega
          go_wp2_with fail
          go_ret
          exact ⟨ret_bool (decide_eq_true (HM.out.2 ⟨h1, h2, h3, h4⟩)).symm, rfl⟩
        · have d4 : decide (n ≤ (L : Int) - s) = false := by simp; omega
          go_wp2_with fail
          go_ret
          exact ⟨ret_bool (decide_eq_false (fun h => by have := HM.out.1 h; omega)).symm, rfl⟩
      · have d3 : decide (s ≤ (L : Int)) = false := by simp; omega
        go_wp2_with fail
        go_ret
        exact ⟨ret_bool (decide_eq_false (fun h => by have := HM.out.1 h; omega)).symm, rfl⟩
    · have d2 : decide (0 ≤ s) = false := by simp; omega
      go_wp2_with fail
      go_ret
      exact ⟨ret_bool (decide_eq_false (fun h => by have := HM.out.1 h; omega)).symm, rfl⟩
  · have d1 : decide (1 ≤ n) = false := by simp; omega
    go_wp2_with fail
    go_ret
    exact ⟨ret_bool (decide_eq_false (fun h => by have := HM.out.1 h; omega)).symm, rfl⟩
end Go.Proofs.Ythhpdlkkmgmdeaa
