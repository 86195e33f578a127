/-
  The document's small helpers: Round, at, Shade.
-/
import Derived.Test.YtgcemgknhkgjoaaBase
set_option linter.unusedVariables false
set_option linter.unusedSimpArgs false
namespace Go.Proofs.Ytgcemgknhkgjoaa
open Go Go.RowKit

theorem agg_int : ∀ w : World, (isAgg 3).run Try.prog w = .ok false w := fun _ => by kernel_rfl
theorem agg_u8 : ∀ w : World, (isAgg 5).run Try.prog w = .ok false w := fun _ => by kernel_rfl
theorem agg_bool : ∀ w : World, (isAgg 4).run Try.prog w = .ok false w := fun _ => by kernel_rfl
theorem agg_cols : ∀ w : World, (isAgg 24).run Try.prog w = .ok false w := fun _ => by kernel_rfl

theorem round_eq (k n : Int) (hn : 0 < n) (hn2 : n ≤ 1099511627776) : (wrap64 (k.tmod n + n)).tmod n = k % n := by
  have h1 := Int.tmod_lt_of_pos k hn
  have h2 := Int.lt_tmod_of_pos k hn
  rw [IntWalk.wrap64_in _ (by omega)]
  rw [Int.tmod_eq_emod_of_nonneg (by omega)]
  have h3 : k = n * (k.tdiv n) + k.tmod n := (Int.mul_tdiv_add_tmod k n).symm
  have : (k.tmod n + n) % n = k % n := by
    rw [Int.add_emod_right]
    conv => rhs; rw [h3]
    rw [Int.mul_add_emod_self_left]
  exact this

theorem round17u (k n : Int) (w : World) (hn : 0 < n) (hn2 : n ≤ 1099511627776) :
    Calls Try.prog 11 #[.int .i64 k, .int .i64 n] w fun e w' => e = .returned (.int .i64 (k % n)) ∧ w = w' := by
  go_enter Try.func11, Try.ntmps11
  go_wp2
  go_ret
  exact ⟨ret_int (round_eq k n hn hn2), rfl⟩
theorem round17 (k n : Int) (w : World) (hn : 0 < n) (hn2 : n ≤ 1099511627776) (_ : -9223372036854775808 ≤ k) (_ : k ≤ 9223372036854775807) :
    Calls Try.prog 11 #[.int .i64 k, .int .i64 n] w fun e w' => e = .returned (.int .i64 (k % n)) ∧ w = w' := round17u k n w hn hn2

def atN (l : List Int) (i : Nat) (m : Int) : Int := if l = [] then 0 else (wrap64 (l.getD (i % l.length) 0 + ((i / l.length : Nat) : Int))) % m

set_option maxRecDepth 100000 in
set_option maxHeartbeats 400000 in
theorem at_core (b off L c i : Nat) (X m : Int) (w : World) (hpos : 0 < L) (hlen : L ≤ 1000000) (hi2 : i ≤ 1000000000) (hm : 0 < m) (hm2 : m ≤ 1099511627776)
    (hx : w.cell? ⟨b, off + i % L, none⟩ = some (.int .i64 X)) (hbd : -9223372036854775808 ≤ X ∧ X ≤ 9223372036854775807) (hne : ((L : Int) == 0) = false) :
    Calls Try.prog 29 #[.slice (some ⟨b, off, none⟩) L c, .int .i64 i, .int .i64 m] w fun e w' => e = .returned (.int .i64 ((wrap64 (X + ((i / L : Nat) : Int))) % m)) ∧ Gr w w' := by
  have hlt : i % L < L := Nat.mod_lt _ hpos
  obtain ⟨hb1, hb2⟩ := hbd
  have hL0 : ¬ (L = 0) := by omega
  have hq0 : (0 : Int) ≤ (i : Int) % (L : Int) := Int.emod_nonneg _ (by omega)
  have hq1 : (i : Int) % (L : Int) < (L : Int) := Int.emod_lt_of_pos _ (by omega)
  have hq2 : (0 : Int) ≤ (i : Int) / (L : Int) := Int.ediv_nonneg (by omega) (by omega)
  have hq3 : (i : Int) / (L : Int) ≤ (i : Int) := Int.ediv_le_self _ (by omega)
  go_enter Try.func29, Try.ntmps29
  go_wp2
  refine wp_region_lex [(0, .p), (1, .p), (2, .p), (3, .p), (4, .p), (5, .p), (6, .t), (7, .p), (8, .p), (9, .p), (10, .p), (11, .p), (12, .p), (13, .t), (14, .p)] [] (by kernel_rfl) (by kernel_rfl) ?_
  repeat first
    | ((refine lexG_p rfl (fun K hK => ?_)); go_simp; (try go_bits); refine hK _ ?_; clear hK K)
    | (refine lexG_load1 rfl rfl rfl rfl rfl agg_int (by go_simp; rfl) ?_; simp only [Act.put, List.setIfInBounds_toArray, List.set_cons_zero, List.set_cons_succ])
  refine lexG_tx rfl rfl rfl ?_; apply Exists.intro; refine ⟨fun w' hG => ?_, ?_⟩
  · go_simp
    exact gr_of_same (round17 _ _ _ hm hm2 (wrap64_bd _).1 (wrap64_bd _).2)
  simp only [Act.put, List.setIfInBounds_toArray, List.set_cons_zero, List.set_cons_succ]
  refine lexG_p rfl (fun K hK => ?_); go_simp; refine hK _ ?_; clear hK K
  refine lexG_nil fun w1 hG => ?_
  go_wp2
  go_ret
  exact ⟨rfl, hG⟩

theorem at_any (A : Option Addr) (c : Nat) (l : List Int) (i : Nat) (m : Int) (w : World) (hl : Ints w A l) (hb : ∀ x ∈ l, -9223372036854775808 ≤ x ∧ x ≤ 9223372036854775807) (hlen : l.length ≤ 1000000) (hi2 : i ≤ 1000000000) (hm : 0 < m) (hm2 : m ≤ 1099511627776) :
    Calls Try.prog 29 #[.slice A l.length c, .int .i64 i, .int .i64 m] w fun e w' => e = .returned (.int .i64 (atN l i m)) ∧ Gr w w' := by
  by_cases hz : l = []
  · subst hz
    go_enter Try.func29, Try.ntmps29
    go_wp2
    go_ret
    exact ⟨rfl, Gr.refl w⟩
  · have hpos : 0 < l.length := List.length_pos_iff.2 hz
    have hlt : i % l.length < l.length := Nat.mod_lt _ hpos
    obtain ⟨b, off, rfl, hbw, hc⟩ := hl.at_ hpos
    have hfin : atN l i m = (wrap64 (l[i % l.length] + ((i / l.length : Nat) : Int))) % m := by
      unfold atN
      rw [if_neg hz]
      simp [List.getD, List.getElem?_eq_getElem hlt]
    rw [hfin]
    exact at_core b off l.length c i _ m w hpos hlen hi2 hm hm2 (hc _ _ (List.getElem?_eq_getElem hlt)) (hb _ (List.getElem_mem hlt)) (by simp; exact hz)
end Go.Proofs.Ytgcemgknhkgjoaa
