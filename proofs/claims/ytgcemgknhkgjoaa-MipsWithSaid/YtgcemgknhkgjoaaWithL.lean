/-
  copy for elements of any size, as one step of a region that draws its order; and what (*Pyramid).With writes.
-/
import Derived.Test.YtgcemgknhkgjoaaTex
set_option linter.unusedVariables false
set_option linter.unusedSimpArgs false
namespace Go.Proofs.Ytgcemgknhkgjoaa
open Go Go.RowKit

section
variable {P : Program} {o : Oper} {a : Act} {K : Act → World → Prop} {Q : Exit → Act → World → Prop}
theorem run_copy_sz (w : World) (dT sT ty elem sz g off dLen dCap : Nat) (ad : Addr) (sLen sCap n : Nat) (cur : Array Value) (t : TypeId) (cs : List Value)
    (hu : P.underlying dT = some (.slice elem)) (hs : ∀ w, (sizeOf elem).run P w = .ok sz w)
    (hg : w.heap[g]? = some (.cells cur t (0, 0))) (hn : Nat.min sLen dLen = n) (hcs : cs.length = n * sz)
    (hsrc : ∀ j v, cs[j]? = some v → w.cell? (ad.add j) = some v) (hfit : off + cs.length ≤ cur.size) (h1 : ∀ v ∈ cs, v.oneCell' = true) :
    (Builtin.copy_ #[dT, sT] ty #[.slice (some ⟨g, off, none⟩) dLen dCap, .slice (some ad) sLen sCap]).run P w =
      .ok (goInt n) (w.setRow g (splice cur off cs)) := by
  have hl := run_loadCells_list (P := P) w ad cs hsrc
  have hst := run_storeCells_at P g off t cs 0 cur w hg (by simpa using hfit) h1
  have h2 := hs w
  rw [hcs] at hl
  simp only [Nat.add_zero] at hst
  have hst' : (storeCells ⟨g, off, none⟩ cs).run P w = .ok () (w.setRow g (splice cur off cs)) := hst
  simp [Builtin.copy_, run_underlying hu, Builtin.lenOf, Builtin.firstCells, h2, hn, hl, hst']

theorem lexG_copy {ops : Array Oper} {B : Nat → Bool} {R : Act → World → Prop} {w0 w : World} {i : Nat} {r : List (Nat × RK)} {dd : Tmp} (hi : ops[i]? = some o) (hgd : o.guard = none) (hd : o.dst = some dd) (d s : Operand) (dT sT : TypeId)
    (ho : o.op = .call { callee := .builtin .copy, args := #[d, s], argTypes := #[dT, sT] })
    (elem sz g off dLen dCap : Nat) (ad : Addr) (sLen sCap n : Nat) (hdv : a.eval d = .slice (some ⟨g, off, none⟩) dLen dCap) (hsv : a.eval s = .slice (some ad) sLen sCap) (cur : Array Value) (t : TypeId) (cs : List Value)
    (hu : P.underlying dT = some (.slice elem)) (hs : ∀ w, (sizeOf elem).run P w = .ok sz w)
    (hg : w.heap[g]? = some (.cells cur t (0, 0))) (hn : Nat.min sLen dLen = n) (hcs : cs.length = n * sz)
    (hsrc : ∀ j v, cs[j]? = some v → w.cell? (ad.add j) = some v) (hfit : off + cs.length ≤ cur.size) (h1 : ∀ v ∈ cs, v.oneCell' = true) (hB : B i = true)
    (h : ∀ w1, Gr w w1 → LexG P ops B w0 R r (a.put (some dd) (goInt n)) (w1.setRow g (splice cur off cs))) : LexG P ops B w0 R ((i, .s) :: r) a w := by
  refine lexG_s hi fun w1 hG K hK => ?_
  have hw : Region.wanted o (yielded ops a.tmps) = true := by simp [Region.wanted, hgd]
  rw [if_pos hw]
  have hrun := run_copy_sz (P := P) w1 dT sT o.type elem sz g off dLen dCap ad sLen sCap n cur t cs hu hs (hG.heap hg) hn hcs (fun j v hj => hG.cell (hsrc j v hj)) hfit h1
  unfold Oper.wp
  simp [execOp, ho, resolve, invoke, builtin, hdv, hsv, hrun, Result.andThen]
  exact hK _ _ (fun hb => by rw [hB] at hb; cases hb) (by rw [hd]; exact h w1 hG)
end

theorem take_splice {α : Type} (L cs : List α) (off N : Nat) (h : off + cs.length ≤ N) (hN : N ≤ L.length) :
    (L.take off ++ cs ++ L.drop (off + cs.length)).take N = (L.take N).take off ++ cs ++ (L.take N).drop (off + cs.length) := by
  rw [List.take_append, List.take_of_length_le (l := L.take off ++ cs) (by simp; omega)]
  rw [List.take_take, Nat.min_eq_left (by omega : off ≤ N), List.drop_take]
  congr 2
  simp
  omega

theorem own_splice {w : World} {base e sz n ga cap off : Nat} {cur : Array Value} {xs cs : List Value} (h : w.ownsRow base e sz (.slice (some ⟨ga, 0, none⟩) n cap) n xs)
    (hcur : w.heap[ga]? = some (.cells cur e (0, 0))) (hfit : off + cs.length ≤ n * sz) :
    (w.setRow ga (splice cur off cs)).ownsRow base e sz (.slice (some ⟨ga, 0, none⟩) n cap) n (xs.take off ++ cs ++ xs.drop (off + cs.length)) := by
  have hl := h.1
  refine ⟨by simp; omega, ?_⟩
  rcases h.2 with ⟨h1, _⟩ | ⟨g', cap', cur', hv, hb, hgg, h1, h2, h3, h4⟩
  · cases h1
  · injection hv with hv _ hc
    injection hv with hv
    injection hv with hv
    subst hv
    subst hc
    rw [hcur] at hgg
    injection hgg with hgg
    injection hgg with hgg
    subst hgg
    have hle : n * sz ≤ cur.toList.length := by rw [Array.length_toList, h3]; exact Nat.mul_le_mul_right _ h1
    refine .inr ⟨ga, cap, splice cur off cs, rfl, hb, setRow_at hcur _, h1, h2, ?_, ?_⟩
    · rw [← h3]
      have : cur.toList.length = cur.size := Array.length_toList
      simp [splice]; omega
    · rw [← h4]
      exact take_splice cur.toList cs off (n * sz) hfit hle

/-- What With writes: row after row. -/
def withRow (N X Y W : Nat) (l : List Col) (k : Nat) (u : List Col) : List Col := u.take ((Y + k) * N + X) ++ (l.drop (k * W)).take W ++ u.drop ((Y + k) * N + X + W)
def withRows (ts : List Col) (N X Y W : Nat) (l : List Col) : Nat → List Col
  | 0 => ts
  | k + 1 => withRow N X Y W l k (withRows ts N X Y W l k)

theorem row_in {N X Y W H k : Nat} (hX : X + W ≤ N) (hY : Y + H ≤ N) (hk : k < H) : (Y + k) * N + X + W ≤ N * N := by
  have : (Y + k + 1) * N ≤ N * N := Nat.mul_le_mul_right _ (by omega)
  rw [Nat.add_mul, Nat.one_mul] at this
  omega
theorem src_in {W H k : Nat} (hk : k < H) : k * W + W ≤ W * H := by
  have : (k + 1) * W ≤ H * W := Nat.mul_le_mul_right _ hk
  rw [Nat.add_mul, Nat.one_mul, Nat.mul_comm H W] at this
  exact this

theorem withRows_length (ts : List Col) (N X Y W H : Nat) (l : List Col) (hts : ts.length = N * N) (hX : X + W ≤ N) (hY : Y + H ≤ N) (hl : l.length = W * H) : ∀ k, k ≤ H → (withRows ts N X Y W l k).length = N * N
  | 0, _ => hts
  | k + 1, hk => by
    have ih := withRows_length ts N X Y W H l hts hX hY hl k (by omega)
    have h1 := row_in hX hY (k := k) (by omega)
    have h2 := src_in (W := W) (H := H) (k := k) (by omega)
    simp only [withRows, withRow, List.length_append, List.length_take, List.length_drop, ih, hl]
    omega

theorem cols_take (l : List Col) (k : Nat) : cols (l.take k) = (cols l).take (k * 4) := by
  induction l generalizing k with
  | nil => simp [cols]
  | cons c l ih =>
    cases k with
    | zero => simp [cols]
    | succ k =>
      rw [List.take_succ_cons]
      show c.cells ++ cols (l.take k) = (c.cells ++ cols l).take _
      have h4 : c.cells.length = 4 := rfl
      rw [ih, List.take_append, List.take_of_length_le (l := c.cells) (by omega), h4, show (k + 1) * 4 - 4 = k * 4 by omega]
theorem cols_drop (l : List Col) (k : Nat) : cols (l.drop k) = (cols l).drop (k * 4) := by
  induction l generalizing k with
  | nil => simp [cols]
  | cons c l ih =>
    cases k with
    | zero => simp [cols]
    | succ k =>
      rw [List.drop_succ_cons, ih]
      show _ = (c.cells ++ cols l).drop _
      have h4 : c.cells.length = 4 := rfl
      rw [List.drop_append, List.drop_of_length_le (l := c.cells) (by omega), List.nil_append, h4, show (k + 1) * 4 - 4 = k * 4 by omega]

theorem cols_withRow (N X Y W : Nat) (l u : List Col) (k I : Nat) (hI : (Y + k) * N + X = I) (hW : ((l.drop (k * W)).take W).length = W) :
    cols (withRow N X Y W l k u) = (cols u).take (I * 4) ++ cols ((l.drop (k * W)).take W) ++ (cols u).drop (I * 4 + (cols ((l.drop (k * W)).take W)).length) := by
  unfold withRow
  rw [hI, cols_append, cols_append, cols_take, cols_drop, cols_length, hW, Nat.add_mul]
end Go.Proofs.Ytgcemgknhkgjoaa
