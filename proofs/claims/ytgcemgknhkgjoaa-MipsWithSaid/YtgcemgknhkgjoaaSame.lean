/-
  Two rows of colours are held against each other.
-/
import Derived.Test.YtgcemgknhkgjoaaBuild
import Derived.Test.YtgcemgknhkgjoaaEq
set_option linter.unusedVariables false
set_option linter.unusedSimpArgs false
namespace Go.Proofs.Ytgcemgknhkgjoaa
open Go Go.RowKit

set_option maxRecDepth 100000 in
set_option maxHeartbeats 1000000 in
theorem sameHues_core (A B : Option Addr) (c1 c2 n : Nat) (la lb : List Col) (w : World) (hA : Cols w A la) (hB : Cols w B lb) (hna : la.length = n) (hnb : lb.length = n) (hn : n ≤ 1000000) :
    Calls Try.prog 37 #[.slice A n c1, .slice B n c2] w fun e w' => e = .returned (.bool (decide (la = lb))) ∧ Gr w w' := by
  have HA : Hid (Cols w A la) := hA
  have HB : Hid (Cols w B lb) := hB
  have HNA : Hid _ := hna
  have HNB : Hid _ := hnb
  clear hA hB hna hnb
  go_enter Try.func37, Try.ntmps37
  go_wp2_with fail
  go_loopw [5] (fun i wr => ∃ k : Nat, k ≤ n ∧ i = .int .i64 k ∧ Hid (∀ j, j < k → la[j]? = lb[j]?) ∧ Gr w wr) (fun i _ => n - (intOf i).toNat)
  case atStart => exact ⟨0, Nat.zero_le _, rfl, fun j hj => absurd hj (by omega), Gr.refl w⟩
  case round =>
    obtain ⟨k, hk, rfl, hpre, hG⟩ := hrel
    by_cases hlt : k < n
    · have hka : k < la.length := by rw [HNA.out]; exact hlt
      have hkb : k < lb.length := by rw [HNB.out]; exact hlt
      obtain ⟨ba, oa, rfl, _, hca⟩ := Cols.at_ HA.out hka
      obtain ⟨bb, ob, rfl, _, hcb⟩ := Cols.at_ HB.out hkb
      obtain ⟨x, hx⟩ : ∃ x, la[k]? = some x := ⟨_, List.getElem?_eq_getElem hka⟩
      obtain ⟨y, hy⟩ : ∃ y, lb[k]? = some y := ⟨_, List.getElem?_eq_getElem hkb⟩
      have HCA : Hid (∀ j u, x.cells[j]? = some u → w.cell? ⟨ba, oa + (k * 4 + j), none⟩ = some u) := fun j u hu => hca k x hx j u hu
      have HCB : Hid (∀ j u, y.cells[j]? = some u → w.cell? ⟨bb, ob + (k * 4 + j), none⟩ = some u) := fun j u hu => hcb k y hy j u hu
      have HX : Hid _ := hx
      have HY : Hid _ := hy
      clear hca hcb hx hy hka hkb
      by_cases hxy : x = y
      · have hne : ∀ w', (binOp .neq 35 x.val y.val).run Try.prog w' = .ok (.bool false) w' := fun w' => (col_neq x y w').trans (by rw [decide_eq_true hxy]; rfl)
        have HXY : Hid (x = y) := hxy
        clear hxy
        go_wp2_with fail
        refine wp_region_lex [(0, .p), (1, .p), (2, .p), (3, .t), (4, .p), (5, .p), (6, .p), (7, .t), (8, .p)] [] (by kernel_rfl) (by kernel_rfl) ?_
        repeat ((refine lexG_p rfl (fun K hK => ?_)); go_simp; (try go_bits); refine hK _ ?_; clear hK K)
        refine lexG_loadn (cs := x.cells) rfl rfl rfl rfl rfl agg_col size_col ?_ ?_
        · intro j u hu; rw [Addr.add_lit, Nat.add_assoc]; exact hG.cell (HCA.out j u hu)
        simp only [Act.put, List.setIfInBounds_toArray, List.set_cons_zero, List.set_cons_succ]
        repeat ((refine lexG_p rfl (fun K hK => ?_)); go_simp; (try go_bits); refine hK _ ?_; clear hK K)
        refine lexG_loadn (cs := y.cells) rfl rfl rfl rfl rfl agg_col size_col ?_ ?_
        · intro j u hu; rw [Addr.add_lit, Nat.add_assoc]; exact hG.cell (HCB.out j u hu)
        simp only [Act.put, List.setIfInBounds_toArray, List.set_cons_zero, List.set_cons_succ]
        repeat ((refine lexG_p rfl (fun K hK => ?_)); go_simp; (try go_bits); refine hK _ ?_; clear hK K)
        refine lexG_nil fun w2 hG2 => ?_
        go_wp2_with fail
        go_roundw
        case rel => exact ⟨k + 1, hlt, by go_num, fun j hj => by
          rcases Nat.lt_or_ge j k with h | h
          · exact hpre j h
          · have : j = k := by omega
            subst this
            rw [HX.out, HY.out, HXY.out], hG.trans hG2⟩
        case measure => simp [intOf]; omega
      · have hne : ∀ w', (binOp .neq 35 x.val y.val).run Try.prog w' = .ok (.bool true) w' := fun w' => (col_neq x y w').trans (by rw [decide_eq_false hxy]; rfl)
        have HXY : Hid (¬ x = y) := hxy
        clear hxy
        go_wp2_with fail
        refine wp_region_lex [(0, .p), (1, .p), (2, .p), (3, .t), (4, .p), (5, .p), (6, .p), (7, .t), (8, .p)] [] (by kernel_rfl) (by kernel_rfl) ?_
        repeat ((refine lexG_p rfl (fun K hK => ?_)); go_simp; (try go_bits); refine hK _ ?_; clear hK K)
        refine lexG_loadn (cs := x.cells) rfl rfl rfl rfl rfl agg_col size_col ?_ ?_
        · intro j u hu; rw [Addr.add_lit, Nat.add_assoc]; exact hG.cell (HCA.out j u hu)
        simp only [Act.put, List.setIfInBounds_toArray, List.set_cons_zero, List.set_cons_succ]
        repeat ((refine lexG_p rfl (fun K hK => ?_)); go_simp; (try go_bits); refine hK _ ?_; clear hK K)
        refine lexG_loadn (cs := y.cells) rfl rfl rfl rfl rfl agg_col size_col ?_ ?_
        · intro j u hu; rw [Addr.add_lit, Nat.add_assoc]; exact hG.cell (HCB.out j u hu)
        simp only [Act.put, List.setIfInBounds_toArray, List.set_cons_zero, List.set_cons_succ]
        repeat ((refine lexG_p rfl (fun K hK => ?_)); go_simp; (try go_bits); refine hK _ ?_; clear hK K)
        refine lexG_nil fun w2 hG2 => ?_
        go_wp2_with fail
        go_ret
        refine ⟨ret_bool ?_, hG.trans hG2⟩
        rw [decide_eq_false]
        intro he
        have h1 := HX.out
        rw [he, HY.out] at h1
        exact HXY.out (Option.some.inj h1).symm
    · go_wp2_with fail
      go_ret
      refine ⟨ret_bool ?_, hG⟩
      have : la = lb := by
        apply List.ext_getElem?
        intro j
        rcases Nat.lt_or_ge j k with h | h
        · exact hpre j h
        · rw [List.getElem?_eq_none (by have := HNA.out; omega), List.getElem?_eq_none (by have := HNB.out; omega)]
      rw [decide_eq_true this]
end Go.Proofs.Ytgcemgknhkgjoaa
