/-
  A texel of a level, and the four that it covers: the plain law of MipsMeans.
-/
import Derived.Test.YtgcemgknhkgjoaaWith
set_option linter.unusedVariables false
set_option linter.unusedSimpArgs false
namespace Go.Proofs.Ytgcemgknhkgjoaa
open Go Go.RowKit

def Col.byte (c : Col) : Nat → Int
  | 0 => c.r.toNat
  | 1 => c.g.toNat
  | 2 => c.b.toNat
  | _ => c.a.toNat

theorem mean_byte (a b c d : Col) (j : Nat) : (Col.mean a b c d).byte j = (a.byte j + b.byte j + c.byte j + d.byte j + 2) / 4 := by
  match j with
  | 0 => exact toNat_meanB _ _ _ _
  | 1 => exact toNat_meanB _ _ _ _
  | 2 => exact toNat_meanB _ _ _ _
  | _ + 3 => exact toNat_meanB _ _ _ _

theorem byte_bd (c : Col) (j : Nat) : 0 ≤ c.byte j ∧ c.byte j ≤ 255 := by
  match j with
  | 0 => exact u8_bd _
  | 1 => exact u8_bd _
  | 2 => exact u8_bd _
  | _ + 3 => exact u8_bd _

theorem addr_in (p : Pyr) (X N : Nat) (h : X < N) : p.addr (X : Int) (N : Int) = (X : Int) := by
  unfold Pyr.addr
  split
  · exact Int.emod_eq_of_lt (by omega) (by omega)
  · omega

theorem at_in (p : Pyr) (l X Y : Nat) (hl : l ≤ p.d) (hX : X < sideN p.d l) (hY : Y < sideN p.d l) : p.at (l : Int) (X : Int) (Y : Int) = (p.lev.getD l []).getD (Y * sideN p.d l + X) Col.zero := by
  unfold Pyr.at
  rw [if_pos ⟨by omega, by omega⟩, Int.toNat_natCast, addr_in p X _ hX, addr_in p Y _ hY]
  congr 1

theorem pyrOf_lev (D : Nat) (wrap : Bool) (ts : List Col) (l : Nat) (hl : l ≤ D) : (pyrOf D wrap ts).lev.getD l [] = lvl D ts l := by
  simp [pyrOf, List.getD, List.getElem?_map, List.getElem?_range (show l < D + 1 by omega)]

theorem at_mean (D : Nat) (wrap : Bool) (ts : List Col) (m X Y : Nat) (hm : m + 1 ≤ D) (hX : X < sideN D (m + 1)) (hY : Y < sideN D (m + 1)) :
    (pyrOf D wrap ts).at ((m + 1 : Nat) : Int) (X : Int) (Y : Int) = Col.mean ((pyrOf D wrap ts).at (m : Int) ((2 * X : Nat) : Int) ((2 * Y : Nat) : Int)) ((pyrOf D wrap ts).at (m : Int) ((2 * X + 1 : Nat) : Int) ((2 * Y : Nat) : Int))
      ((pyrOf D wrap ts).at (m : Int) ((2 * X : Nat) : Int) ((2 * Y + 1 : Nat) : Int)) ((pyrOf D wrap ts).at (m : Int) ((2 * X + 1 : Nat) : Int) ((2 * Y + 1 : Nat) : Int)) := by
  have hs := side_succ D m (by omega)
  have hd : (pyrOf D wrap ts).d = D := rfl
  rw [at_in _ (m + 1) X Y hm hX hY, at_in _ m (2 * X) (2 * Y) (by rw [hd]; omega) (by rw [hd]; omega) (by rw [hd]; omega), at_in _ m (2 * X + 1) (2 * Y) (by rw [hd]; omega) (by rw [hd]; omega) (by rw [hd]; omega),
    at_in _ m (2 * X) (2 * Y + 1) (by rw [hd]; omega) (by rw [hd]; omega) (by rw [hd]; omega), at_in _ m (2 * X + 1) (2 * Y + 1) (by rw [hd]; omega) (by rw [hd]; omega) (by rw [hd]; omega)]
  rw [hd, pyrOf_lev D wrap ts (m + 1) hm, pyrOf_lev D wrap ts m (by omega)]
  show (coarse (lvl D ts m) (sideN D m)).getD _ _ = _
  have hlt : Y * sideN D (m + 1) + X < sideN D (m + 1) * sideN D (m + 1) := by
    have : (Y + 1) * sideN D (m + 1) ≤ sideN D (m + 1) * sideN D (m + 1) := Nat.mul_le_mul_right _ hY
    rw [Nat.add_mul, Nat.one_mul] at this
    omega
  have hh : sideN D m / 2 = sideN D (m + 1) := by omega
  have e : (coarse (lvl D ts m) (sideN D m)).getD (Y * sideN D (m + 1) + X) Col.zero = cF (lvl D ts m) (sideN D m) (Y * sideN D (m + 1) + X) := by
    simp only [coarse, hh, List.getD, List.getElem?_map, List.getElem?_range hlt, Option.map_some, Option.getD_some]
  rw [e, cF_at (lvl D ts m) (sideN D m) (sideN D (m + 1)) Y X (2 * Y * sideN D m + 2 * X) hs hX rfl]
  congr 2
  · rw [Nat.add_mul, Nat.one_mul]; omega
  · rw [Nat.add_mul, Nat.one_mul]; omega

theorem at_round (p : Pyr) (hw : p.wrap = true) (l i j k : Int) (s : Int) (hs : s = (sideN p.d l.toNat : Int)) : p.at l (i + k * s) (j - k * s) = p.at l i j := by
  unfold Pyr.at
  have e1 : p.addr (i + k * s) s = p.addr i s := by unfold Pyr.addr; rw [if_pos hw, if_pos hw, Int.add_mul_emod_self_right]
  have e2 : p.addr (j - k * s) s = p.addr j s := by unfold Pyr.addr; rw [if_pos hw, if_pos hw, Int.sub_eq_add_neg, ← Int.neg_mul, Int.add_mul_emod_self_right]
  rw [← hs, e1, e2]

theorem at_held0 (p : Pyr) (hw : p.wrap = false) (l j k : Int) (hk : 0 ≤ k) : p.at l (-1 - k) j = p.at l 0 j := by
  unfold Pyr.at
  have e : ∀ n : Int, p.addr (-1 - k) n = p.addr 0 n := by intro n; unfold Pyr.addr; simp only [hw, Bool.false_eq_true, if_false]; omega
  rw [e]
theorem at_held1 (p : Pyr) (hw : p.wrap = false) (l k : Int) (hk : 0 ≤ k) (s : Int) (hs : s = (sideN p.d l.toNat : Int)) : p.at l (s + k) s = p.at l (s - 1) (s - 1) := by
  unfold Pyr.at
  have e1 : p.addr (s + k) s = p.addr (s - 1) s := by unfold Pyr.addr; simp only [hw, Bool.false_eq_true, if_false]; omega
  have e2 : p.addr s s = p.addr (s - 1) s := by unfold Pyr.addr; simp only [hw, Bool.false_eq_true, if_false]; omega
  rw [← hs, e1, e2]
end Go.Proofs.Ytgcemgknhkgjoaa
