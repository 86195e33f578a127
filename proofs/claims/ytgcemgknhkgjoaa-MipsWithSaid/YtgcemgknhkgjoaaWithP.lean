/-
  What With changes: the plain law of MipsWith: texels of the part at the finest level, above it only what covers them.
-/
import Derived.Test.YtgcemgknhkgjoaaMeansL
set_option linter.unusedVariables false
set_option linter.unusedSimpArgs false
namespace Go.Proofs.Ytgcemgknhkgjoaa
open Go Go.RowKit

theorem withRow_get (N X Y W H k : Nat) (l u : List Col) (hX : X + W ≤ N) (hY : Y + H ≤ N) (hk : k < H) (hu : u.length = N * N) (hl : l.length = W * H) (x y : Nat) (hx : x < N) (hy : y < N) :
    (withRow N X Y W l k u)[y * N + x]? = if y = Y + k ∧ X ≤ x ∧ x < X + W then l[k * W + (x - X)]? else u[y * N + x]? := by
  have h1 := row_in hX hY hk
  have h2 := src_in (W := W) (H := H) (k := k) (by omega)
  have ha : (u.take ((Y + k) * N + X)).length = (Y + k) * N + X := by rw [List.length_take]; omega
  have hb : ((l.drop (k * W)).take W).length = W := by rw [List.length_take, List.length_drop]; omega
  unfold withRow
  by_cases hc : y = Y + k ∧ X ≤ x ∧ x < X + W
  · obtain ⟨rfl, h3, h4⟩ := hc
    rw [if_pos ⟨rfl, h3, h4⟩, List.append_assoc, List.getElem?_append_right (by rw [ha]; omega), ha, List.getElem?_append_left (by rw [hb]; omega), List.getElem?_take, if_pos (by omega), List.getElem?_drop]
    congr 1
    omega
  · rw [if_neg hc]
    rcases Nat.lt_trichotomy y (Y + k) with hlt | heq | hgt
    · have : (y + 1) * N ≤ (Y + k) * N := Nat.mul_le_mul_right _ hlt
      rw [Nat.add_mul, Nat.one_mul] at this
      rw [List.append_assoc, List.getElem?_append_left (by rw [ha]; omega), List.getElem?_take, if_pos (by omega)]
    · subst heq
      have : x < X ∨ X + W ≤ x := by omega
      rcases this with h | h
      · rw [List.append_assoc, List.getElem?_append_left (by rw [ha]; omega), List.getElem?_take, if_pos (by omega)]
      · rw [List.getElem?_append_right (by rw [List.length_append, ha, hb]; omega), List.length_append, ha, hb, List.getElem?_drop]
        congr 1
        omega
    · have : (Y + k + 1) * N ≤ y * N := Nat.mul_le_mul_right _ hgt
      rw [Nat.add_mul _ 1, Nat.one_mul] at this
      rw [List.getElem?_append_right (by rw [List.length_append, ha, hb]; omega), List.length_append, ha, hb, List.getElem?_drop]
      congr 1
      omega

theorem withRows_get (ts : List Col) (N X Y W H : Nat) (l : List Col) (hts : ts.length = N * N) (hX : X + W ≤ N) (hY : Y + H ≤ N) (hl : l.length = W * H) (x y : Nat) (hx : x < N) (hy : y < N) : ∀ k, k ≤ H →
    (withRows ts N X Y W l k)[y * N + x]? = if Y ≤ y ∧ y < Y + k ∧ X ≤ x ∧ x < X + W then l[(y - Y) * W + (x - X)]? else ts[y * N + x]?
  | 0, _ => by rw [if_neg (by omega)]; rfl
  | k + 1, hk => by
    have ih := withRows_get ts N X Y W H l hts hX hY hl x y hx hy k (by omega)
    show (withRow N X Y W l k (withRows ts N X Y W l k))[y * N + x]? = _
    rw [withRow_get N X Y W H k l _ hX hY (by omega) (withRows_length ts N X Y W H l hts hX hY hl k (by omega)) hl x y hx hy, ih]
    by_cases h1 : y = Y + k ∧ X ≤ x ∧ x < X + W
    · rw [if_pos h1, if_pos (by omega)]
      obtain ⟨rfl, _, _⟩ := h1
      rw [Nat.add_sub_cancel_left]
    · rw [if_neg h1]
      by_cases h2 : Y ≤ y ∧ y < Y + k ∧ X ≤ x ∧ x < X + W
      · rw [if_pos h2, if_pos (by omega)]
      · rw [if_neg h2, if_neg (by omega)]

/-- The texel (x, y) of level n covers one of the part. -/
def Covers (X Y W H n x y : Nat) : Prop := x * 2 ^ n < X + W ∧ X < (x + 1) * 2 ^ n ∧ y * 2 ^ n < Y + H ∧ Y < (y + 1) * 2 ^ n

theorem covers_up (X Y W H n x y a b : Nat) (ha : a ≤ 1) (hb : b ≤ 1) (h : Covers X Y W H n (2 * x + a) (2 * y + b)) : Covers X Y W H (n + 1) x y := by
  obtain ⟨h1, h2, h3, h4⟩ := h
  have e : (2 : Nat) ^ (n + 1) = 2 * 2 ^ n := by rw [Nat.pow_succ]; omega
  have q1 : x * 2 ^ (n + 1) = (2 * x) * 2 ^ n := by rw [e, ← Nat.mul_assoc, Nat.mul_comm x 2]
  have q2 : (x + 1) * 2 ^ (n + 1) = (2 * x + 2) * 2 ^ n := by rw [e, ← Nat.mul_assoc]; congr 1; omega
  have q3 : y * 2 ^ (n + 1) = (2 * y) * 2 ^ n := by rw [e, ← Nat.mul_assoc, Nat.mul_comm y 2]
  have q4 : (y + 1) * 2 ^ (n + 1) = (2 * y + 2) * 2 ^ n := by rw [e, ← Nat.mul_assoc]; congr 1; omega
  have r1 : (2 * x) * 2 ^ n ≤ (2 * x + a) * 2 ^ n := Nat.mul_le_mul_right _ (by omega)
  have r2 : (2 * x + a + 1) * 2 ^ n ≤ (2 * x + 2) * 2 ^ n := Nat.mul_le_mul_right _ (by omega)
  have r3 : (2 * y) * 2 ^ n ≤ (2 * y + b) * 2 ^ n := Nat.mul_le_mul_right _ (by omega)
  have r4 : (2 * y + b + 1) * 2 ^ n ≤ (2 * y + 2) * 2 ^ n := Nat.mul_le_mul_right _ (by omega)
  exact ⟨by omega, by omega, by omega, by omega⟩

theorem at_zero (D : Nat) (wrap : Bool) (ts : List Col) (x y : Nat) (hx : x < sideN D 0) (hy : y < sideN D 0) : (pyrOf D wrap ts).at (0 : Nat) (x : Int) (y : Int) = ts.getD (y * sideN D 0 + x) Col.zero := by
  rw [at_in (pyrOf D wrap ts) 0 x y (Nat.zero_le _) hx hy, pyrOf_lev D wrap ts 0 (Nat.zero_le _)]
  rfl

theorem with_in (D : Nat) (wrap : Bool) (ts l : List Col) (X Y W H : Nat) (hts : ts.length = sideN D 0 * sideN D 0) (hX : X + W ≤ sideN D 0) (hY : Y + H ≤ sideN D 0) (hl : l.length = W * H) (x y : Nat) (hx : x < sideN D 0) (hy : y < sideN D 0) (hc : Covers X Y W H 0 x y) :
    (pyrOf D wrap (withRows ts (sideN D 0) X Y W l H)).at (0 : Nat) (x : Int) (y : Int) = l.getD ((y - Y) * W + (x - X)) Col.zero := by
  obtain ⟨h1, h2, h3, h4⟩ := hc
  simp only [Nat.pow_zero, Nat.mul_one] at h1 h2 h3 h4
  rw [at_zero _ _ _ x y hx hy, List.getD, withRows_get ts (sideN D 0) X Y W H l hts hX hY hl x y hx hy H (Nat.le_refl _), if_pos (by omega)]
  rfl

theorem with_out (D : Nat) (wrap : Bool) (ts l : List Col) (X Y W H : Nat) (hts : ts.length = sideN D 0 * sideN D 0) (hX : X + W ≤ sideN D 0) (hY : Y + H ≤ sideN D 0) (hl : l.length = W * H) : ∀ (n : Nat), n ≤ D → ∀ (x y : Nat), x < sideN D n → y < sideN D n → ¬ Covers X Y W H n x y →
    (pyrOf D wrap (withRows ts (sideN D 0) X Y W l H)).at (n : Int) (x : Int) (y : Int) = (pyrOf D wrap ts).at (n : Int) (x : Int) (y : Int)
  | 0, _, x, y, hx, hy, hc => by
    have hc' : ¬ (Y ≤ y ∧ y < Y + H ∧ X ≤ x ∧ x < X + W) := fun h => hc ⟨by simp; omega, by simp; omega, by simp; omega, by simp; omega⟩
    rw [at_zero _ _ _ x y hx hy, at_zero _ _ _ x y hx hy, List.getD, withRows_get ts (sideN D 0) X Y W H l hts hX hY hl x y hx hy H (Nat.le_refl _), if_neg hc']
    rfl
  | n + 1, hn, x, y, hx, hy, hc => by
    have ih := with_out D wrap ts l X Y W H hts hX hY hl n (by omega)
    have hs := side_succ D n (by omega)
    rw [at_mean _ _ _ n x y hn hx hy, at_mean _ _ _ n x y hn hx hy]
    have c : ∀ a b, a ≤ 1 → b ≤ 1 → ¬ Covers X Y W H n (2 * x + a) (2 * y + b) := fun a b ha hb h => hc (covers_up X Y W H n x y a b ha hb h)
    have i1 := ih (2 * x) (2 * y) (by omega) (by omega) (c 0 0 (by omega) (by omega))
    have i2 := ih (2 * x + 1) (2 * y) (by omega) (by omega) (c 1 0 (by omega) (by omega))
    have i3 := ih (2 * x) (2 * y + 1) (by omega) (by omega) (c 0 1 (by omega) (by omega))
    have i4 := ih (2 * x + 1) (2 * y + 1) (by omega) (by omega) (c 1 1 (by omega) (by omega))
    rw [i1, i2, i3, i4]
end Go.Proofs.Ytgcemgknhkgjoaa
