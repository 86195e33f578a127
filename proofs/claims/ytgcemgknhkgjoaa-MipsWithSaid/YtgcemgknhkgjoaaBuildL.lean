/-
  The levels of a pyramid, while it is being built.
-/
import Derived.Test.YtgcemgknhkgjoaaClone
set_option linter.unusedVariables false
set_option linter.unusedSimpArgs false
namespace Go.Proofs.Ytgcemgknhkgjoaa
open Go Go.RowKit

def lvl (D : Nat) (ts : List Col) : Nat → List Col
  | 0 => ts
  | i + 1 => coarse (lvl D ts i) (sideN D i)
def pyrOf (D : Nat) (wrap : Bool) (ts : List Col) : Pyr := ⟨D, wrap, (List.range (D + 1)).map (lvl D ts)⟩

theorem side_succ (D i : Nat) (h : i < D) : sideN D i = 2 * sideN D (i + 1) := by
  unfold sideN
  have : D - i = (D - (i + 1)) + 1 := by omega
  rw [this, Nat.pow_succ]
  omega
theorem lvl_length (D : Nat) (ts : List Col) (h : ts.length = sideN D 0 * sideN D 0) : ∀ i, i ≤ D → (lvl D ts i).length = sideN D i * sideN D i
  | 0, _ => h
  | i + 1, hi => by
    have := side_succ D i (by omega)
    simp only [lvl, coarse, List.length_map, List.length_range, this]
    have e : 2 * sideN D (i + 1) / 2 = sideN D (i + 1) := by omega
    rw [e]

theorem ety_lev : ElemTy Try.prog 72 24 1 24 := by
  have h : (Try.prog.info? 24).map (fun i => (i.zero, i.size, i.bytes)) = some (some (.slice none 0 0), 1, 24) := by kernel_rfl
  obtain ⟨i, h1, h2, h3, h4⟩ := info_parts h
  exact ⟨Try.underlying72, by omega, i, _, h1, h2, h3, h4, rfl⟩

/-- A row of another element type is as it was. -/
theorem own_apart {w w' : World} {base base2 e e2 sz sz2 n n2 m c : Nat} {v v2 : Value} {A : Option Addr} {xs ys zs : List Value} (h : w.ownsRow base e sz v n xs) (hap : Appd w w' base2 e2 sz2 v2 A m c zs) (hv : w.ownsRow base2 e2 sz2 v2 n2 ys) (hne : e ≠ e2) : w'.ownsRow base e sz v n xs := by
  refine h.kept hap.grown ?_
  rcases h.2 with ⟨rfl, _⟩ | ⟨g, cap, cur, rfl, _, hh, _⟩
  · exact .inl rfl
  · right
    intro he
    have := hap.block (cs := cur) (t := e) (g := g) hv hh hne
    rcases hv.2 with ⟨rfl, _⟩ | ⟨g2, cap2, cur2, rfl, _, hh2, _⟩
    · cases he
    · have hg : g = g2 := by simpa [Value.ownBlock] using he
      subst hg
      rw [hh] at hh2
      injection hh2 with hh2
      injection hh2 with _ hh2
      exact hne hh2

/-- While it is being built: as many levels as are there. -/
def BuildInv (w : World) (g D : Nat) (wrap : Bool) (ts : List Col) (i : Nat) (wr : World) : Prop :=
  ∃ (A1 : Option Addr) (c1 : Nat) (A2 : Option Addr) (c2 : Nat) (lv : List Value), i ≤ D ∧
    wr.heap[g]? = some (.cells #[.int .i64 D, .bool wrap, .slice A1 ts.length c1, .slice A2 (i + 1) c2] 74 (0, 0)) ∧
    wr.ownsRow w.heap.size 24 1 (.slice A2 (i + 1) c2) (i + 1) lv ∧
    (∀ j, j < i + 1 → ∃ A c, lv[j]? = some (.slice A (lvl D ts j).length c) ∧ wr.ownsRow w.heap.size 35 4 (.slice A (lvl D ts j).length c) (lvl D ts j).length (cols (lvl D ts j))) ∧
    wr.ownsRow w.heap.size 35 4 (.slice A1 ts.length c1) ts.length (cols ts) ∧ w.heap.size ≤ g ∧ Gr w wr

def BuildPost (w : World) (p : Pyr) (e : Ending) (w' : World) : Prop := ∃ g, e = .returned (.tuple #[.pointer (some ⟨g, 0, none⟩), .int .i64 0]) ∧ IsPyr w' g p ∧ Gr w w' ∧ w.heap.size ≤ g

theorem build_done {w wr : World} {g D : Nat} {wrap : Bool} {ts : List Col} (hD : D ≤ 3) (hts : ts.length = sideN D 0 * sideN D 0) (h : BuildInv w g D wrap ts D wr) : IsPyr wr g (pyrOf D wrap ts) := by
  obtain ⟨A1, c1, A2, c2, lv, _, hb, hlv, hl, hA1, _, _⟩ := h
  obtain ⟨L, cap, hv, _, hLlt⟩ := hlv.form (by omega)
  have hA2 : A2 = some ⟨L, 0, none⟩ := by injection hv
  subst hA2
  refine ⟨hD, by simp [pyrOf], ?_, A1, c1, L, c2, ts, hb, by simp [pyrOf, lvl], hLlt, ?_, ?_⟩
  · intro i l hi
    simp only [pyrOf, List.getElem?_map] at hi
    by_cases hlt : i < D + 1
    · rw [List.getElem?_range hlt] at hi
      simp only [Option.map_some, Option.some.injEq] at hi
      subst hi
      exact lvl_length D ts hts i (by omega)
    · rw [List.getElem?_eq_none (by simp; omega)] at hi; cases hi
  · intro i l hi
    simp only [pyrOf, List.getElem?_map] at hi
    by_cases hlt : i < D + 1
    · rw [List.getElem?_range hlt] at hi
      simp only [Option.map_some, Option.some.injEq] at hi
      subst hi
      obtain ⟨A, c, hj, ho⟩ := hl i hlt
      have hc := hlv.cells (g := L) rfl i _ hj
      rw [Addr.add_lit, Nat.zero_add] at hc
      exact ⟨A, c, hc, Sl.of_own ho⟩
    · rw [List.getElem?_eq_none (by simp; omega)] at hi; cases hi
  · exact Sl.of_own hA1

theorem build_step {w w4 w5 w6 w7 : World} {g D i c1 c2 c3 c4 : Nat} {wrap : Bool} {ts : List Col} {A1 A2 A3 A4 : Option Addr} {lv : List Value}
    (hi : i < D)
    (hb : w4.heap[g]? = some (.cells #[.int .i64 D, .bool wrap, .slice A1 ts.length c1, .slice A2 (i + 1) c2] 74 (0, 0)))
    (hlv : w4.ownsRow w.heap.size 24 1 (.slice A2 (i + 1) c2) (i + 1) lv)
    (hl : ∀ j, j < i + 1 → ∃ A c, lv[j]? = some (.slice A (lvl D ts j).length c) ∧ w4.ownsRow w.heap.size 35 4 (.slice A (lvl D ts j).length c) (lvl D ts j).length (cols (lvl D ts j)))
    (hA1 : w4.ownsRow w.heap.size 35 4 (.slice A1 ts.length c1) ts.length (cols ts)) (hg : w.heap.size ≤ g) (hG : Gr w w4)
    (hnew : w4.ownsRow w.heap.size 35 4 (.slice A3 (lvl D ts (i + 1)).length c3) (lvl D ts (i + 1)).length (cols (lvl D ts (i + 1))))
    (hap : Appd w4 w5 w.heap.size 24 1 (.slice A2 (i + 1) c2) A4 (i + 1 + 1) c4 (lv ++ [.slice A3 (lvl D ts (i + 1)).length c3])) (hG6 : Gr w5 w6)
    (hG7 : Gr (w6.setRow g (splice #[.int .i64 D, .bool wrap, .slice A1 ts.length c1, .slice A2 (i + 1) c2] 3 [.slice A4 (i + 1 + 1) c4])) w7) : BuildInv w g D wrap ts (i + 1) w7 := by
  have hb6 := hG6.heap (hap.block hlv hb (by decide))
  have key : ∀ {v : Value} {n : Nat} {xs : List Value}, w4.ownsRow w.heap.size 35 4 v n xs → w7.ownsRow w.heap.size 35 4 v n xs := fun h =>
    own_gr (own_setRow (own_gr (own_apart h hap hlv (by decide)) hG6) hb6 (by decide)) hG7
  refine ⟨A1, c1, A4, c4, lv ++ [.slice A3 (lvl D ts (i + 1)).length c3], hi, hG7.heap (setRow_at hb6 _), own_gr (own_setRow (own_gr hap.own hG6) hb6 (by decide)) hG7, ?_, key hA1, hg, ?_⟩
  · intro j hj
    have hlen : lv.length = i + 1 := by have := hlv.1; omega
    by_cases hji : j < i + 1
    · obtain ⟨A, c, h1, h2⟩ := hl j hji
      exact ⟨A, c, by rw [List.getElem?_append_left (by omega)]; exact h1, key h2⟩
    · have : j = i + 1 := by omega
      subst this
      exact ⟨A3, c3, by rw [List.getElem?_append_right (by omega), hlen]; simp, key hnew⟩
  · exact (((hap.gr hlv hG (Nat.le_refl _)).trans hG6).setRow hg _).trans hG7

end Go.Proofs.Ytgcemgknhkgjoaa
