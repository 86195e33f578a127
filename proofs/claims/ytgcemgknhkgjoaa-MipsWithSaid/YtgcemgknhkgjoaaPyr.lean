/-
  A pyramid in memory; its depth, whether it goes round, its sizes and addresses.
-/
import Derived.Test.YtgcemgknhkgjoaaHue
set_option linter.unusedVariables false
set_option linter.unusedSimpArgs false
namespace Go.Proofs.Ytgcemgknhkgjoaa
open Go Go.RowKit

structure Pyr where
  d : Nat
  wrap : Bool
  lev : List (List Col)

def sideN (d l : Nat) : Nat := 4 * 2 ^ (d - l)

/-- Block g is the pyramid p. -/
structure IsPyr (w : World) (g : Nat) (p : Pyr) : Prop where
  hd : p.d ≤ 3
  hlen : p.lev.length = p.d + 1
  hsz : ∀ i l, p.lev[i]? = some l → l.length = sideN p.d i * sideN p.d i
  mem : ∃ A c L cl t, w.heap[g]? = some (.cells #[.int .i64 p.d, .bool p.wrap, .slice A t.length c, .slice (some ⟨L, 0, none⟩) (p.d + 1) cl] 74 (0, 0)) ∧
    p.lev[0]? = some t ∧ L < w.heap.size ∧ (∀ i l, p.lev[i]? = some l → ∃ Ai ci, w.cell? ⟨L, i, none⟩ = some (.slice Ai l.length ci) ∧ Cols w Ai l) ∧ Cols w A t

theorem IsPyr.gr {w w' : World} {g : Nat} {p : Pyr} (h : IsPyr w g p) (hg : Gr w w') : IsPyr w' g p := by
  obtain ⟨A, c, L, cl, t, hb, ht, hL, hl, hA⟩ := h.mem
  refine ⟨h.hd, h.hlen, h.hsz, A, c, L, cl, t, hg.heap hb, ht, Nat.lt_of_lt_of_le hL hg.size, fun i l hi => ?_, hA.gr hg⟩
  obtain ⟨Ai, ci, hc, hcs⟩ := hl i l hi
  exact ⟨Ai, ci, hg.cell hc, hcs.gr hg⟩

def Pyr.size (p : Pyr) (l : Int) : Int := if 0 ≤ l ∧ l ≤ p.d then (sideN p.d l.toNat : Int) else 0
def Pyr.addr (p : Pyr) (x n : Int) : Int := if p.wrap then x % n else min (max x 0) (n - 1)
def Col.zero : Col := ⟨0, 0, 0, 0⟩
def Pyr.at (p : Pyr) (l x y : Int) : Col :=
  if 0 ≤ l ∧ l ≤ p.d then (p.lev.getD l.toNat []).getD (p.addr y (sideN p.d l.toNat) * sideN p.d l.toNat + p.addr x (sideN p.d l.toNat)).toNat Col.zero else Col.zero

theorem sideN_bd (d l : Nat) (hd : d ≤ 3) : 4 ≤ sideN d l ∧ sideN d l ≤ 32 := by
  unfold sideN
  have : d - l = 0 ∨ d - l = 1 ∨ d - l = 2 ∨ d - l = 3 := by omega
  rcases this with h | h | h | h <;> rw [h] <;> decide

theorem addr_bd (p : Pyr) (x n : Int) (hn : 0 < n) : 0 ≤ p.addr x n ∧ p.addr x n < n := by
  unfold Pyr.addr
  split
  · exact ⟨Int.emod_nonneg _ (by omega), Int.emod_lt_of_pos _ hn⟩
  · omega

theorem size_shl (d l : Nat) (hd : d ≤ 3) : wrap64 (4 * 2 ^ (d - l)) = (sideN d l : Int) := by
  unfold sideN
  have : d - l = 0 ∨ d - l = 1 ∨ d - l = 2 ∨ d - l = 3 := by omega
  rcases this with h | h | h | h <;> rw [h] <;> simp [wrap64]

theorem size_core_in (g : Nat) (d l : Nat) (w : World) (hc : w.cell? ⟨g, 0, none⟩ = some (.int .i64 (d : Int))) (hd : d ≤ 3) (hl : l ≤ d) :
    Calls Try.prog 12 #[.pointer (some ⟨g, 0, none⟩), .int .i64 (l : Int)] w fun e w' => e = .returned (.int .i64 (sideN d l : Int)) ∧ w = w' := by
  have hs := size_shl d l hd
  go_enter Try.func12, Try.ntmps12
  clear hs
  go_wp2
  go_ret
  exact ⟨ret_int (size_shl d l hd), rfl⟩

theorem size_core_neg (g : Nat) (l : Int) (w : World) (hl : l < 0) :
    Calls Try.prog 12 #[.pointer (some ⟨g, 0, none⟩), .int .i64 l] w fun e w' => e = .returned (.int .i64 0) ∧ w = w' := by
  have hd : decide (l < 0) = true := by simpa using hl
  go_enter Try.func12, Try.ntmps12
  go_wp2
  go_ret
  exact ⟨rfl, rfl⟩

theorem size_core_big (g d : Nat) (l : Int) (w : World) (hc : w.cell? ⟨g, 0, none⟩ = some (.int .i64 (d : Int))) (hl : (d : Int) < l) :
    Calls Try.prog 12 #[.pointer (some ⟨g, 0, none⟩), .int .i64 l] w fun e w' => e = .returned (.int .i64 0) ∧ w = w' := by
  have h1 : decide (l < 0) = false := by simp; omega
  have h2 : decide ((d : Int) < l) = true := by simpa using hl
  go_enter Try.func12, Try.ntmps12
  go_wp2
  go_ret
  exact ⟨rfl, rfl⟩

theorem size_nil (l : Int) (w : World) : Calls Try.prog 12 #[.pointer none, .int .i64 l] w fun e w' => e = .returned (.int .i64 0) ∧ w = w' := by
  go_enter Try.func12, Try.ntmps12
  go_wp2
  go_ret
  exact ⟨rfl, rfl⟩

theorem IsPyr.cell0 {w : World} {g : Nat} {p : Pyr} (h : IsPyr w g p) : w.cell? ⟨g, 0, none⟩ = some (.int .i64 (p.d : Int)) ∧ w.cell? ⟨g, 1, none⟩ = some (.bool p.wrap) := by
  obtain ⟨A, c, L, cl, t, hb, _⟩ := h.mem
  exact ⟨row_cell hb 0 rfl, row_cell hb 1 rfl⟩

theorem size_any (g : Nat) (p : Pyr) (l : Int) (w : World) (h : IsPyr w g p) :
    Calls Try.prog 12 #[.pointer (some ⟨g, 0, none⟩), .int .i64 l] w fun e w' => e = .returned (.int .i64 (p.size l)) ∧ w = w' := by
  have hc := h.cell0.1
  unfold Pyr.size
  by_cases h0 : l < 0
  · rw [if_neg (by omega)]; exact size_core_neg g l w h0
  · by_cases h1 : (p.d : Int) < l
    · rw [if_neg (by omega)]; exact size_core_big g p.d l w hc h1
    · rw [if_pos (by omega)]
      obtain ⟨n, rfl⟩ := Int.eq_ofNat_of_zero_le (show 0 ≤ l by omega)
      exact size_core_in g p.d n w hc h.hd (by omega)

theorem depth_any (g : Nat) (p : Pyr) (w : World) (h : IsPyr w g p) :
    Calls Try.prog 26 #[.pointer (some ⟨g, 0, none⟩)] w fun e w' => e = .returned (.int .i64 (p.d : Int)) ∧ w = w' := by
  have hc := h.cell0.1
  generalize p.d = d at hc
  clear h
  go_enter Try.func26, Try.ntmps26
  go_wp2
  go_ret
  exact ⟨rfl, rfl⟩

theorem depth_nil (w : World) : Calls Try.prog 26 #[.pointer none] w fun e w' => e = .returned (.int .i64 0) ∧ w = w' := by
  go_enter Try.func26, Try.ntmps26
  go_wp2
  go_ret
  exact ⟨rfl, rfl⟩

theorem wrap_any (g : Nat) (p : Pyr) (w : World) (h : IsPyr w g p) :
    Calls Try.prog 27 #[.pointer (some ⟨g, 0, none⟩)] w fun e w' => e = .returned (.bool p.wrap) ∧ w = w' := by
  have hc := h.cell0.2
  generalize p.wrap = b at hc
  clear h
  cases b <;>
  · go_enter Try.func27, Try.ntmps27
    go_wp2
    go_ret
    exact ⟨rfl, rfl⟩

theorem address_true (g : Nat) (x n : Int) (w : World) (hw : w.cell? ⟨g, 1, none⟩ = some (.bool true)) (hn : 0 < n) (hn2 : n ≤ 1000) (hk1 : -9223372036854775808 ≤ x) (hk2 : x ≤ 9223372036854775807) :
    Calls Try.prog 33 #[.pointer (some ⟨g, 0, none⟩), .int .i64 x, .int .i64 n] w fun e w' => e = .returned (.int .i64 (x % n)) ∧ w = w' := by
  go_enter Try.func33, Try.ntmps33
  go_wp2
  go_ret
  exact ⟨ret_int (round_eq x n hn (by omega)), rfl⟩

theorem address_false (g : Nat) (x n : Int) (w : World) (hw : w.cell? ⟨g, 1, none⟩ = some (.bool false)) (hn : 0 < n) (hn2 : n ≤ 1000) (hk1 : -9223372036854775808 ≤ x) (hk2 : x ≤ 9223372036854775807) :
    Calls Try.prog 33 #[.pointer (some ⟨g, 0, none⟩), .int .i64 x, .int .i64 n] w fun e w' => e = .returned (.int .i64 (min (max x 0) (n - 1))) ∧ w = w' := by
  by_cases h1 : x < 0
  · have e1 : min (max x 0) (n - 1) = 0 := by omega
    rw [e1]
    go_enter Try.func33, Try.ntmps33
    go_wp2
    go_ret
    exact ⟨rfl, rfl⟩
  · by_cases h2 : n - 1 < x
    · have e1 : min (max x 0) (n - 1) = n - 1 := by omega
      rw [e1]
      go_enter Try.func33, Try.ntmps33
      go_wp2
      go_ret
      exact ⟨rfl, rfl⟩
    · have e1 : min (max x 0) (n - 1) = x := by omega
      rw [e1]
      go_enter Try.func33, Try.ntmps33
      go_wp2
      go_ret
      exact ⟨rfl, rfl⟩

theorem address_any (g : Nat) (p : Pyr) (x n : Int) (w : World) (h : IsPyr w g p) (hn : 0 < n) (hn2 : n ≤ 1000) (hk1 : -9223372036854775808 ≤ x) (hk2 : x ≤ 9223372036854775807) :
    Calls Try.prog 33 #[.pointer (some ⟨g, 0, none⟩), .int .i64 x, .int .i64 n] w fun e w' => e = .returned (.int .i64 (p.addr x n)) ∧ w = w' := by
  have hc := h.cell0.2
  unfold Pyr.addr
  cases hp : p.wrap with
  | true => rw [hp] at hc; rw [if_pos rfl]; exact address_true g x n w hc hn hn2 hk1 hk2
  | false => rw [hp] at hc; rw [if_neg (by simp)]; exact address_false g x n w hc hn hn2 hk1 hk2
end Go.Proofs.Ytgcemgknhkgjoaa
