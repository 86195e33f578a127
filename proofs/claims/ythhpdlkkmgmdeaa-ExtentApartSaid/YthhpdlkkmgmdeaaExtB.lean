/-
  Used, Claim and Give on sectors, the program's and the document's.
-/
import Derived.Test.YthhpdlkkmgmdeaaExtA
set_option linter.unusedVariables false
set_option linter.unusedSimpArgs false
namespace Go.Proofs.Ythhpdlkkmgmdeaa
open Go Go.RowKit

def cntR (u : List Bool) (k : Nat) : Nat := (u.take k).countP id
theorem cntR_succ (u : List Bool) (k : Nat) (hk : k < u.length) : cntR u (k + 1) = cntR u k + (if uat u k then 1 else 0) := by
  unfold cntR
  rw [List.take_add_one, List.getElem?_eq_getElem hk, List.countP_append]
  have : uat u k = u[k] := by simp [uat, List.getD, hk]
  rw [this]
  cases u[k] <;> simp
theorem cntR_le (u : List Bool) (k : Nat) : cntR u k ≤ k := by
  unfold cntR
  have := List.countP_le_length (p := id) (l := u.take k)
  simp at this
  omega
theorem cntR_all (u : List Bool) : cntR u u.length = usedR u := by simp [cntR, usedR]

set_option maxRecDepth 100000 in
theorem used_any (g b c : Nat) (u : List Bool) (w : World) (h : IsExt w g b c 51 u) (hb : u.length ≤ 1000000) :
    Calls Try.prog 16 #[ptrV g] w fun e w' => e = .returned (.int .i64 (usedR u : Int)) ∧ w = w' := by
  have c0 := h.cell0
  go_enter Try.func16, Try.ntmps16
  go_wp2_with fail
  go_loopw [2, 12] (fun r i wr => ∃ k : Nat, i = .int .i64 (k : Int) ∧ r = .int .i64 (cntR u k : Int) ∧ k ≤ u.length ∧ w = wr) (fun _ i _ => u.length - (intOf i).toNat)
  case atStart => exact ⟨0, rfl, rfl, Nat.zero_le _, rfl⟩
  case round =>
    obtain ⟨k, rfl, rfl, hk, rfl⟩ := ‹∃ k : Nat, _›
    have hc := cntR_le u k
    by_cases hlt : k < u.length
    · have hltI : (k : Int) < (u.length : Int) := by omega
      have c1 := h.cs k hlt
      have hs := cntR_succ u k hlt
      have HH : Hid _ := h
      clear h
      generalize uat u k = x at *
      have HS : Hid _ := hs
      clear hs
      generalize cntR u k = m at *
      cases x
      · go_wp2_with fail
        go_roundw
        case rel => exact ⟨k + 1, by go_num, by rw [HS.out]; simp, hlt, by trivial⟩
        case measure => simp [intOf]; omega
      · go_wp2_with fail
        go_roundw
        case rel => exact ⟨k + 1, by go_num, by rw [HS.out]; simp, hlt, by trivial⟩
        case measure => simp [intOf]; omega
    · have hkn : k = u.length := by omega
      subst hkn
      have hltI : ¬ (u.length : Int) < (u.length : Int) := by omega
      go_wp2_with fail
      go_ret
      exact ⟨ret_int (by rw [cntR_all]), rfl⟩

theorem used_nil (w : World) : Calls Try.prog 16 #[.pointer none] w fun e w' => e = .returned (.int .i64 0) ∧ w = w' := by
  go_enter Try.func16, Try.ntmps16
  go_wp2_with fail
  go_ret
  exact ⟨rfl, rfl⟩

set_option maxRecDepth 100000 in
theorem usedRef_any (g b c : Nat) (u : List Bool) (w : World) (h : IsExt w g b c 53 u) (hb : u.length ≤ 1000000) :
    Calls Try.prog 17 #[ptrV g] w fun e w' => e = .returned (.int .i64 (usedR u : Int)) ∧ w = w' := by
  have c0 := h.cell0
  go_enter Try.func17, Try.ntmps17
  go_wp2_with fail
  go_loopw [3, 4] (fun r i wr => ∃ k : Nat, i = .int .i64 (k : Int) ∧ r = .int .i64 (cntR u k : Int) ∧ k ≤ u.length ∧ w = wr) (fun _ i _ => u.length - (intOf i).toNat)
  case atStart => exact ⟨0, rfl, rfl, Nat.zero_le _, rfl⟩
  case round =>
    obtain ⟨k, rfl, rfl, hk, rfl⟩ := ‹∃ k : Nat, _›
    have hc := cntR_le u k
    by_cases hlt : k < u.length
    · have hltI : (k : Int) < (u.length : Int) := by omega
      have c1 := h.cs k hlt
      have hs := cntR_succ u k hlt
      have HH : Hid _ := h
      clear h
      generalize uat u k = x at *
      have HS : Hid _ := hs
      clear hs
      generalize cntR u k = m at *
      cases x
      · go_wp2_with fail
        go_roundw
        case rel => exact ⟨k + 1, by go_num, by rw [HS.out]; simp, hlt, by trivial⟩
        case measure => simp [intOf]; omega
      · go_wp2_with fail
        go_roundw
        case rel => exact ⟨k + 1, by go_num, by rw [HS.out]; simp, hlt, by trivial⟩
        case measure => simp [intOf]; omega
    · have hkn : k = u.length := by omega
      subst hkn
      have hltI : ¬ (u.length : Int) < (u.length : Int) := by omega
      go_wp2_with fail
      go_ret
      exact ⟨ret_int (by rw [cntR_all]), rfl⟩

theorem mayR_nat {u : List Bool} {s n : Int} (h : mayR u s n) : ∃ a m : Nat, s = (a : Int) ∧ n = (m : Int) ∧ 1 ≤ m ∧ a < u.length ∧ a + m ≤ u.length := by
  obtain ⟨h1, h2, h3, h4⟩ := h
  exact ⟨s.toNat, n.toNat, by omega, by omega, by omega, by omega, by omega⟩

theorem hasB_true (u : List Bool) (s n : Nat) : hasB u s n true = !allB u s n false := rfl
theorem hasB_false (u : List Bool) (s n : Nat) : hasB u s n false = !allB u s n true := rfl

/-- What Claim and Give hand back, and leave. -/
def ActPost (w : World) (k : IntKind) (g b c : Nat) (t : TypeId) (r : Int × List Bool) (e : Ending) (w' : World) : Prop :=
  e = .returned (.int k r.1) ∧ IsExt w' g b c t r.2 ∧ w.grownBy w' (some b)

set_option maxRecDepth 100000 in
theorem claim_any (g b c : Nat) (u : List Bool) (s n : Int) (w : World) (h : IsExt w g b c 51 u) (hb : u.length ≤ 1000000) (hs : -9223372036854775808 ≤ s ∧ s ≤ 9223372036854775807) (hn : -9223372036854775808 ≤ n ∧ n ≤ 9223372036854775807) :
    Calls Try.prog 11 #[ptrV g, .int .i64 s, .int .i64 n] w (ActPost w .i64 g b c 51 (claimR u s n)) := by
  have HM : Hid _ := may_any g b c u s n w h hb hs hn
  by_cases hm : mayR u s n
  · obtain ⟨a, m, rfl, rfl, hm1, hal, ham⟩ := mayR_nat hm
    rw [decide_eq_true hm] at HM
    have HC := contains_any b (c - a) u a (a + m - a) true w h.cs (by omega) hb
    rw [Nat.add_sub_cancel_left, show hasB u a m true = !allB u a m false from rfl] at HC
    have HS : Hid _ := set_any g b c u a m true w h ham hb
    have HH : Hid _ := h
    have c0 := h.cell0
    have hcap := h.cap
    have hr : claimR u (a : Int) (m : Int) = (if allB u a m false then (0, setR u a true m) else (5, u)) := by unfold claimR; rw [if_pos hm]; simp
    rw [hr]
    clear hr h
    cases hA : allB u a m false with
    | true =>
      rw [hA] at HC
      have HC : Hid _ := HC
      clear hA
      rw [if_pos rfl]
      go_enter Try.func11, Try.ntmps11
      go_wp2_with fail
      refine Calls.mono HM ?_
      rintro e w' ⟨rfl, rfl⟩
      go_wp2_with fail
      rw [Nat.add_sub_cancel_left]
      refine Calls.mono HC ?_
      rintro e w' ⟨rfl, rfl⟩
      go_wp2_with fail
      refine Calls.mono HS ?_
      rintro e w' ⟨⟨r, rfl⟩, hI, hG⟩
      go_wp2_with fail
      go_ret
      exact ⟨rfl, hI, hG⟩
    | false =>
      rw [hA] at HC
      have HC : Hid _ := HC
      clear hA
      rw [if_neg (by simp)]
      go_enter Try.func11, Try.ntmps11
      go_wp2_with fail
      refine Calls.mono HM ?_
      rintro e w' ⟨rfl, rfl⟩
      go_wp2_with fail
      rw [Nat.add_sub_cancel_left]
      refine Calls.mono HC ?_
      rintro e w' ⟨rfl, rfl⟩
      go_wp2_with fail
      go_ret
      exact ⟨rfl, HH.out, gb_refl _ _⟩
  · rw [decide_eq_false hm] at HM
    have hr : claimR u s n = (1, u) := by unfold claimR; rw [if_neg hm]
    rw [hr]
    have HH : Hid _ := h
    clear hr h
    go_enter Try.func11, Try.ntmps11
    go_wp2_with fail
    refine Calls.mono HM ?_
    rintro e w' ⟨rfl, rfl⟩
    go_wp2_with fail
    go_ret
    exact ⟨rfl, HH.out, gb_refl _ _⟩

theorem claim_nil (s n : Int) (w : World) : Calls Try.prog 11 #[.pointer none, .int .i64 s, .int .i64 n] w fun e w' => e = .returned (.int .i64 1) ∧ w = w' := by
  have HM : Hid _ := may_nil s n w
  go_enter Try.func11, Try.ntmps11
  go_wp2_with fail
  refine Calls.mono HM ?_
  rintro e w' ⟨rfl, rfl⟩
  go_wp2_with fail
  go_ret
  exact ⟨rfl, rfl⟩

set_option maxRecDepth 100000 in
theorem claimRef_any (g b c : Nat) (u : List Bool) (s n : Int) (w : World) (h : IsExt w g b c 53 u) (hb : u.length ≤ 1000000) (hs : -9223372036854775808 ≤ s ∧ s ≤ 9223372036854775807) (hn : -9223372036854775808 ≤ n ∧ n ≤ 9223372036854775807) :
    Calls Try.prog 12 #[ptrV g, .int .i64 s, .int .i64 n] w (ActPost w .i64 g b c 53 (claimR u s n)) := by
  have HM : Hid _ := in_any g b c u s n w h hb hs hn
  by_cases hm : mayR u s n
  · obtain ⟨a, m, rfl, rfl, hm1, hal, ham⟩ := mayR_nat hm
    rw [decide_eq_true hm] at HM
    have HC := all_any g b c u a m false w h ham hb
    have HS : Hid _ := mark_any g b c u a m true w h ham hb
    have HH : Hid _ := h
    have hr : claimR u (a : Int) (m : Int) = (if allB u a m false then (0, setR u a true m) else (5, u)) := by unfold claimR; rw [if_pos hm]; simp
    rw [hr]
    clear hr h
    cases hA : allB u a m false with
    | true =>
      rw [hA] at HC
      have HC : Hid _ := HC
      clear hA
      rw [if_pos rfl]
      go_enter Try.func12, Try.ntmps12
      go_wp2_with fail
      refine Calls.mono HM ?_
      rintro e w' ⟨rfl, rfl⟩
      go_wp2_with fail
      refine Calls.mono HC ?_
      rintro e w' ⟨rfl, rfl⟩
      go_wp2_with fail
      refine Calls.mono HS ?_
      rintro e w' ⟨⟨r, rfl⟩, hI, hG⟩
      go_wp2_with fail
      go_ret
      exact ⟨rfl, hI, hG⟩
    | false =>
      rw [hA] at HC
      have HC : Hid _ := HC
      clear hA
      rw [if_neg (by simp)]
      go_enter Try.func12, Try.ntmps12
      go_wp2_with fail
      refine Calls.mono HM ?_
      rintro e w' ⟨rfl, rfl⟩
      go_wp2_with fail
      refine Calls.mono HC ?_
      rintro e w' ⟨rfl, rfl⟩
      go_wp2_with fail
      go_ret
      exact ⟨rfl, HH.out, gb_refl _ _⟩
  · rw [decide_eq_false hm] at HM
    have hr : claimR u s n = (1, u) := by unfold claimR; rw [if_neg hm]
    rw [hr]
    have HH : Hid _ := h
    clear hr h
    go_enter Try.func12, Try.ntmps12
    go_wp2_with fail
    refine Calls.mono HM ?_
    rintro e w' ⟨rfl, rfl⟩
    go_wp2_with fail
    go_ret
    exact ⟨rfl, HH.out, gb_refl _ _⟩

set_option maxRecDepth 100000 in
theorem give_any (g b c : Nat) (u : List Bool) (s n : Int) (w : World) (h : IsExt w g b c 51 u) (hb : u.length ≤ 1000000) (hs : -9223372036854775808 ≤ s ∧ s ≤ 9223372036854775807) (hn : -9223372036854775808 ≤ n ∧ n ≤ 9223372036854775807) :
    Calls Try.prog 13 #[ptrV g, .int .i64 s, .int .i64 n] w (ActPost w .i64 g b c 51 (giveR u s n)) := by
  have HM : Hid _ := may_any g b c u s n w h hb hs hn
  by_cases hm : mayR u s n
  · obtain ⟨a, m, rfl, rfl, hm1, hal, ham⟩ := mayR_nat hm
    rw [decide_eq_true hm] at HM
    have HC := contains_any b (c - a) u a (a + m - a) false w h.cs (by omega) hb
    rw [Nat.add_sub_cancel_left, show hasB u a m false = !allB u a m true from rfl] at HC
    have HS : Hid _ := set_any g b c u a m false w h ham hb
    have HH : Hid _ := h
    have c0 := h.cell0
    have hcap := h.cap
    have hr : giveR u (a : Int) (m : Int) = (if allB u a m true then (0, setR u a false m) else (4, u)) := by unfold giveR; rw [if_pos hm]; simp
    rw [hr]
    clear hr h
    cases hA : allB u a m true with
    | true =>
      rw [hA] at HC
      have HC : Hid _ := HC
      clear hA
      rw [if_pos rfl]
      go_enter Try.func13, Try.ntmps13
      go_wp2_with fail
      refine Calls.mono HM ?_
      rintro e w' ⟨rfl, rfl⟩
      go_wp2_with fail
      rw [Nat.add_sub_cancel_left]
      refine Calls.mono HC ?_
      rintro e w' ⟨rfl, rfl⟩
      go_wp2_with fail
      refine Calls.mono HS ?_
      rintro e w' ⟨⟨r, rfl⟩, hI, hG⟩
      go_wp2_with fail
      go_ret
      exact ⟨rfl, hI, hG⟩
    | false =>
      rw [hA] at HC
      have HC : Hid _ := HC
      clear hA
      rw [if_neg (by simp)]
      go_enter Try.func13, Try.ntmps13
      go_wp2_with fail
      refine Calls.mono HM ?_
      rintro e w' ⟨rfl, rfl⟩
      go_wp2_with fail
      rw [Nat.add_sub_cancel_left]
      refine Calls.mono HC ?_
      rintro e w' ⟨rfl, rfl⟩
      go_wp2_with fail
      go_ret
      exact ⟨rfl, HH.out, gb_refl _ _⟩
  · rw [decide_eq_false hm] at HM
    have hr : giveR u s n = (1, u) := by unfold giveR; rw [if_neg hm]
    rw [hr]
    have HH : Hid _ := h
    clear hr h
    go_enter Try.func13, Try.ntmps13
    go_wp2_with fail
    refine Calls.mono HM ?_
    rintro e w' ⟨rfl, rfl⟩
    go_wp2_with fail
    go_ret
    exact ⟨rfl, HH.out, gb_refl _ _⟩

theorem give_nil (s n : Int) (w : World) : Calls Try.prog 13 #[.pointer none, .int .i64 s, .int .i64 n] w fun e w' => e = .returned (.int .i64 1) ∧ w = w' := by
  have HM : Hid _ := may_nil s n w
  go_enter Try.func13, Try.ntmps13
  go_wp2_with fail
  refine Calls.mono HM ?_
  rintro e w' ⟨rfl, rfl⟩
  go_wp2_with fail
  go_ret
  exact ⟨rfl, rfl⟩

set_option maxRecDepth 100000 in
theorem giveRef_any (g b c : Nat) (u : List Bool) (s n : Int) (w : World) (h : IsExt w g b c 53 u) (hb : u.length ≤ 1000000) (hs : -9223372036854775808 ≤ s ∧ s ≤ 9223372036854775807) (hn : -9223372036854775808 ≤ n ∧ n ≤ 9223372036854775807) :
    Calls Try.prog 14 #[ptrV g, .int .i64 s, .int .i64 n] w (ActPost w .i64 g b c 53 (giveR u s n)) := by
  have HM : Hid _ := in_any g b c u s n w h hb hs hn
  by_cases hm : mayR u s n
  · obtain ⟨a, m, rfl, rfl, hm1, hal, ham⟩ := mayR_nat hm
    rw [decide_eq_true hm] at HM
    have HC := all_any g b c u a m true w h ham hb
    have HS : Hid _ := mark_any g b c u a m false w h ham hb
    have HH : Hid _ := h
    have hr : giveR u (a : Int) (m : Int) = (if allB u a m true then (0, setR u a false m) else (4, u)) := by unfold giveR; rw [if_pos hm]; simp
    rw [hr]
    clear hr h
    cases hA : allB u a m true with
    | true =>
      rw [hA] at HC
      have HC : Hid _ := HC
      clear hA
      rw [if_pos rfl]
      go_enter Try.func14, Try.ntmps14
      go_wp2_with fail
      refine Calls.mono HM ?_
      rintro e w' ⟨rfl, rfl⟩
      go_wp2_with fail
      refine Calls.mono HC ?_
      rintro e w' ⟨rfl, rfl⟩
      go_wp2_with fail
      refine Calls.mono HS ?_
      rintro e w' ⟨⟨r, rfl⟩, hI, hG⟩
      go_wp2_with fail
      go_ret
      exact ⟨rfl, hI, hG⟩
    | false =>
      rw [hA] at HC
      have HC : Hid _ := HC
      clear hA
      rw [if_neg (by simp)]
      go_enter Try.func14, Try.ntmps14
      go_wp2_with fail
      refine Calls.mono HM ?_
      rintro e w' ⟨rfl, rfl⟩
      go_wp2_with fail
      refine Calls.mono HC ?_
      rintro e w' ⟨rfl, rfl⟩
      go_wp2_with fail
      go_ret
      exact ⟨rfl, HH.out, gb_refl _ _⟩
  · rw [decide_eq_false hm] at HM
    have hr : giveR u s n = (1, u) := by unfold giveR; rw [if_neg hm]
    rw [hr]
    have HH : Hid _ := h
    clear hr h
    go_enter Try.func14, Try.ntmps14
    go_wp2_with fail
    refine Calls.mono HM ?_
    rintro e w' ⟨rfl, rfl⟩
    go_wp2_with fail
    go_ret
    exact ⟨rfl, HH.out, gb_refl _ _⟩

end Go.Proofs.Ythhpdlkkmgmdeaa
