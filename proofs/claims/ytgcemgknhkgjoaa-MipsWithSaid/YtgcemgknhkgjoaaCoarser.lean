/-
  The next coarser level.
-/
import Derived.Test.YtgcemgknhkgjoaaPaint
set_option linter.unusedVariables false
set_option linter.unusedSimpArgs false
namespace Go.Proofs.Ytgcemgknhkgjoaa
open Go Go.RowKit

def cF (l : List Col) (s i : Nat) : Col :=
  let I := 2 * (i / (s / 2)) * s + 2 * (i % (s / 2))
  Col.mean (l.getD I Col.zero) (l.getD (I + 1) Col.zero) (l.getD (I + s) Col.zero) (l.getD (I + s + 1) Col.zero)
def coarse (l : List Col) (s : Nat) : List Col := (List.range (s / 2 * (s / 2))).map (cF l s)

def CoOut (w : World) (l : List Col) (s h Y : Nat) (v y : Value) (wr : World) : Prop :=
  ∃ (A : Option Addr) (c : Nat), Y ≤ h ∧ y = .int .i64 (2 * (Y : Int)) ∧ v = .slice A (Y * h) c ∧ wr.ownsRow w.heap.size 35 4 v (Y * h) (cols ((List.range (Y * h)).map (cF l s))) ∧ Gr w wr
def CoIn (w : World) (l : List Col) (s h Y X : Nat) (v x : Value) (wr : World) : Prop :=
  ∃ (A : Option Addr) (c : Nat), X ≤ h ∧ x = .int .i64 (2 * (X : Int)) ∧ v = .slice A (Y * h + X) c ∧ wr.ownsRow w.heap.size 35 4 v (Y * h + X) (cols ((List.range (Y * h + X)).map (cF l s))) ∧ Gr w wr

theorem getD_some {l : List Col} {k : Nat} (h : k < l.length) : l[k]? = some (l.getD k Col.zero) := by simp [List.getD, List.getElem?_eq_getElem h]

theorem cF_take (l : List Col) (s k : Nat) : cols ((List.range (k + 1)).map (cF l s)) = cols ((List.range k).map (cF l s)) ++ (cF l s k).cells := by
  rw [List.range_succ, List.map_append]; simp [cols]

theorem cF_at (l : List Col) (s h Y X I : Nat) (hs : s = 2 * h) (hX : X < h) (hI : I = 2 * Y * s + 2 * X) :
    cF l s (Y * h + X) = Col.mean (l.getD I Col.zero) (l.getD (I + 1) Col.zero) (l.getD (I + s) Col.zero) (l.getD (I + s + 1) Col.zero) := by
  have e1 : s / 2 = h := by omega
  have e2 : (Y * h + X) / h = Y := by
    rw [Nat.mul_comm, Nat.mul_add_div (by omega), Nat.div_eq_of_lt hX, Nat.add_zero]
  have e3 : (Y * h + X) % h = X := by
    rw [Nat.mul_comm, Nat.mul_add_mod, Nat.mod_eq_of_lt hX]
  unfold cF
  simp only [e1, e2, e3, ← hI]

theorem co_idx (Y X s h n : Nat) (hs : s = 2 * h) (hn : n = s * s) (hY : Y < h) (hX : X < h) (hh : h ≤ 16) : (0 : Int) ≤ 2 * (Y : Int) * (s : Int) ∧ 2 * (Y : Int) * (s : Int) ≤ 1024 ∧
    ∃ I : Nat, Hid (I = 2 * Y * s + 2 * X) ∧ Hid (2 * (Y : Int) * (s : Int) + 2 * (X : Int) = (I : Int)) ∧ I + s + 1 < n := by
  have h1 : 2 * Y * s ≤ 30 * 32 := Nat.mul_le_mul (by omega) (by omega)
  have h2 : (2 * Y + 2) * s ≤ s * s := Nat.mul_le_mul_right _ (by omega)
  rw [Nat.add_mul] at h2
  have e : 2 * (Y : Int) * (s : Int) = ((2 * Y * s : Nat) : Int) := by simp
  refine ⟨by rw [e]; omega, by rw [e]; omega, 2 * Y * s + 2 * X, rfl, ?_, by omega⟩
  show 2 * (Y : Int) * (s : Int) + 2 * (X : Int) = _
  rw [e]; simp

set_option maxRecDepth 100000 in
set_option maxHeartbeats 2000000 in
theorem coarser_core (b off c s h n : Nat) (l : List Col) (w : World) (hs : s = 2 * h) (hh : 1 ≤ h) (hh2 : h ≤ 16) (hlen : l.length = n) (hn : n = s * s)
    (hcell : ∀ k x, l[k]? = some x → ∀ j u, x.cells[j]? = some u → w.cell? ⟨b, off + (k * 4 + j), none⟩ = some u) :
    Calls Try.prog 32 #[.slice (some ⟨b, off, none⟩) n c, .int .i64 (s : Int)] w fun e w' =>
      ∃ A c', e = .returned (.slice A (h * h) c') ∧ w'.ownsRow w.heap.size 35 4 (.slice A (h * h) c') (h * h) (cols (coarse l s)) ∧ Gr w w' := by
  have HC : Hid _ := hcell
  have HL : Hid _ := hlen
  have HS : Hid (s = 2 * h) := hs
  have HN : Hid (n = s * s) := hn
  have hs1 : s ≤ 2 * h := by omega
  have hs2 : 2 * h ≤ s := by omega
  clear hcell hlen hs hn
  go_enter Try.func32, Try.ntmps32
  go_wp2_with fail
  go_loopw [4, 5] (fun v y wr => ∃ Y, CoOut w l s h Y v y wr) (fun _ y _ => s - (intOf y).toNat)
  case atStart => exact ⟨0, none, 0, Nat.zero_le _, rfl, by rw [Nat.zero_mul], by rw [Nat.zero_mul]; exact World.ownsRow_nil _ _ _ _, Gr.refl w⟩
  case round =>
    obtain ⟨Y, A1, c1, hY, rfl, rfl, hown, hG⟩ := hrel
    by_cases hlt : Y < h
    · obtain ⟨wo, rfl⟩ : ∃ wo : World, wo = wr := ⟨_, rfl⟩
      have hdY : decide (2 * (Y : Int) < (s : Int)) = true := by simp; omega
      go_wp2_with fail
      go_loopw [4, 6] (fun v x wi => ∃ X, CoIn w l s h Y X v x wi) (fun _ x _ => s - (intOf x).toNat)
      case atStart => exact ⟨0, A1, c1, Nat.zero_le _, rfl, rfl, hown, hG⟩
      case round =>
        clear hown hG
        obtain ⟨X, A2, c2, hX, rfl, rfl, hown, hGi⟩ := hrel
        by_cases hltX : X < h
        · obtain ⟨hm0, hm1, I, HI, HIe, hIs⟩ := co_idx Y X s h n HS.out HN.out hlt hltX hh2
          have hI0 : (0 : Int) ≤ (I : Int) := by omega
          have hn1 : n ≤ 1024 := by have := HN.out; have : s * s ≤ 32 * 32 := Nat.mul_le_mul (by omega) (by omega); omega
          obtain ⟨x0, hx0⟩ : ∃ x, l.getD I Col.zero = x := ⟨_, rfl⟩
          obtain ⟨x1, hx1⟩ : ∃ x, l.getD (I + 1) Col.zero = x := ⟨_, rfl⟩
          obtain ⟨x2, hx2⟩ : ∃ x, l.getD (I + s) Col.zero = x := ⟨_, rfl⟩
          obtain ⟨x3, hx3⟩ : ∃ x, l.getD (I + s + 1) Col.zero = x := ⟨_, rfl⟩
          have HX0 : Hid (l[I]? = some x0) := by rw [← hx0]; exact getD_some (by rw [HL.out]; omega)
          have HX1 : Hid (l[I + 1]? = some x1) := by rw [← hx1]; exact getD_some (by rw [HL.out]; omega)
          have HX2 : Hid (l[I + s]? = some x2) := by rw [← hx2]; exact getD_some (by rw [HL.out]; omega)
          have HX3 : Hid (l[I + s + 1]? = some x3) := by rw [← hx3]; exact getD_some (by rw [HL.out]; omega)
          have HCF : Hid (cF l s (Y * h + X) = Col.mean x0 x1 x2 x3) := by rw [← hx0, ← hx1, ← hx2, ← hx3]; exact cF_at l s h Y X I HS.out hltX HI.out
          clear hx0 hx1 hx2 hx3
          have hdX : decide (2 * (X : Int) < (s : Int)) = true := by simp; omega
          have hJ1 : I < n := by omega
          have hJ2 : I + 1 < n := by omega
          have hJ3 : I + s < n := by omega
          have hJ4 : I + s + 1 < n := by omega
          have hJ5 : (0 : Int) ≤ (I : Int) + 1 := by omega
          have hJ6 : (0 : Int) ≤ (I : Int) + (s : Int) := by omega
          have hJ7 : (0 : Int) ≤ (I : Int) + (s : Int) + 1 := by omega
          have hYX : Y * h + X ≤ 256 := by have : Y * h ≤ 15 * 16 := Nat.mul_le_mul (by omega) hh2; omega
          have hI1 : (I : Int) < (n : Int) := by omega
          have hI2 : (I : Int) + 1 < (n : Int) := by omega
          have hI3 : (I : Int) + (s : Int) < (n : Int) := by omega
          have hI4 : (I : Int) + (s : Int) + 1 < (n : Int) := by omega
          go_wp2_with fail
          rw [HIe.out]
          clear hm0 hm1
          refine wp_region_lex [(0, .p), (1, .p), (2, .p), (3, .p), (4, .t), (5, .p), (6, .p), (7, .p), (8, .p), (9, .t), (10, .p), (11, .p), (12, .p), (13, .p), (14, .p), (15, .t), (16, .p), (17, .p), (18, .p), (19, .p), (20, .p), (21, .p), (22, .t), (23, .t), (24, .s), (25, .s), (26, .p)] [25] (by kernel_rfl) (by kernel_rfl) ?_
          repeat ((refine lexG_p rfl (fun K hK => ?_)); go_simp; (try go_bits); refine hK _ ?_; clear hK K)
          refine lexG_loadn (cs := x0.cells) rfl rfl rfl rfl rfl agg_col size_col ?_ ?_
          · intro j u hu; rw [Addr.add_lit, Nat.add_assoc]; exact hGi.cell (HC.out _ _ HX0.out j u hu)
          simp only [Act.put, List.setIfInBounds_toArray, List.set_cons_zero, List.set_cons_succ]
          repeat ((refine lexG_p rfl (fun K hK => ?_)); go_simp; (try go_bits); refine hK _ ?_; clear hK K)
          refine lexG_loadn (cs := x1.cells) rfl rfl rfl rfl rfl agg_col size_col ?_ ?_
          · intro j u hu; rw [Addr.add_lit, Nat.add_assoc]; exact hGi.cell (HC.out _ _ HX1.out j u hu)
          simp only [Act.put, List.setIfInBounds_toArray, List.set_cons_zero, List.set_cons_succ]
          repeat ((refine lexG_p rfl (fun K hK => ?_)); go_simp; (try go_bits); refine hK _ ?_; clear hK K)
          refine lexG_loadn (cs := x2.cells) rfl rfl rfl rfl rfl agg_col size_col ?_ ?_
          · intro j u hu; rw [Addr.add_lit, Nat.add_assoc]; exact hGi.cell (HC.out _ _ HX2.out j u hu)
          simp only [Act.put, List.setIfInBounds_toArray, List.set_cons_zero, List.set_cons_succ]
          repeat ((refine lexG_p rfl (fun K hK => ?_)); go_simp; (try go_bits); refine hK _ ?_; clear hK K)
          refine lexG_loadn (cs := x3.cells) rfl rfl rfl rfl rfl agg_col size_col ?_ ?_
          · intro j u hu; rw [Addr.add_lit, Nat.add_assoc]; exact hGi.cell (HC.out _ _ HX3.out j u hu)
          simp only [Act.put, List.setIfInBounds_toArray, List.set_cons_zero, List.set_cons_succ]
          repeat ((refine lexG_p rfl (fun K hK => ?_)); go_simp; (try go_bits); refine hK _ ?_; clear hK K)
          refine lexG_tx rfl rfl rfl ?_; apply Exists.intro; refine ⟨fun w' hG => ?_, ?_⟩
          · go_simp
            exact mean_any x0 x1 x2 x3 _
          simp only [Act.put, List.setIfInBounds_toArray, List.set_cons_zero, List.set_cons_succ]
          refine lexG_row1 rfl rfl rfl 24 (.tmp 46) rfl ety_col (Col.cells _) rfl rfl (bs_col _) (fun w3 hG3 => ?_)
          simp only [Act.put, List.setIfInBounds_toArray, List.set_cons_zero, List.set_cons_succ]
          refine lexG_app rfl rfl rfl (.tmp 23) (.tmp 47) 24 rfl ety_col w.heap.size (.slice A2 (Y * h + X) c2) (Y * h + X) (cols ((List.range (Y * h + X)).map (cF l s))) rfl (some ⟨w3.heap.size, 0, none⟩) 1 1 _ rfl (by simp [Value.oneCell']) (by unfold maxLen; omega) (by omega) ?_ rfl ?_ (Sl.new w3 _ 4 _ 1 rfl) (fun w4 hG4 A3 c3 w5 hap => ?_)
          · have := hGi.size; have := hG3.size; simp; omega
          · intro w4 hG4; exact own_gr (own_gr hown (hG3.alloc _)) hG4
          simp only [Act.put, List.setIfInBounds_toArray, List.set_cons_zero, List.set_cons_succ]
          repeat ((refine lexG_p rfl (fun K hK => ?_)); go_simp; (try go_bits); refine hK _ ?_; clear hK K)
          refine lexG_nil fun w7 hG7 => ?_
          have hG24 : Gr wr w4 := (hG3.alloc _).trans hG4
          have hown4 := own_gr hown hG24
          rw [← HCF.out, ← cF_take] at hap
          have hG5 : Gr w w5 := hap.gr hown4 (hGi.trans hG24) (Nat.le_refl _)
          have hstep : CoIn w l s h Y (X + 1) (.slice A3 (Y * h + X + 1) c3) (.int .i64 (2 * (X : Int) + 2)) w7 := ⟨A3, c3, hltX, by go_num, rfl, own_gr hap.own hG7, hG5.trans hG7⟩
          clear hap hG7 hG24 hown4 hG5 hG4 hG3 hown hGi
          go_wp2_with fail
          go_roundw
          case rel => exact ⟨X + 1, hstep⟩
          case measure => simp [intOf]; omega
        · go_wp2_with fail
          have hXh : X = h := by omega
          subst hXh
          go_roundw
          case rel => exact ⟨Y + 1, A2, c2, hlt, by go_num, by rw [Nat.add_mul, Nat.one_mul], by rw [Nat.add_mul, Nat.one_mul]; exact hown, hGi⟩
          case measure => simp [intOf]; omega
    · go_wp2_with fail
      have hYh : Y = h := by omega
      subst hYh
      go_ret
      refine ⟨A1, c1, rfl, ?_, hG⟩
      have e1 : s / 2 = Y := by have := HS.out; omega
      unfold coarse
      rw [e1]
      exact hown
end Go.Proofs.Ytgcemgknhkgjoaa
