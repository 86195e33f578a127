/-
  The walk of law14's MipsMeans: it answers true.
-/
import Derived.Test.YtgcemgknhkgjoaaMeansL
import Derived.Test.YtgcemgknhkgjoaaAwake
set_option linter.unusedVariables false
set_option linter.unusedSimpArgs false
namespace Go.Proofs.Ytgcemgknhkgjoaa
open Go Go.RowKit

theorem mean_r (a b c d m : Col) (h : m = Col.mean a b c d) : (m.r.toNat : Int) = (a.r.toNat + b.r.toNat + c.r.toNat + d.r.toNat + 2) / 4 := by subst h; exact mean_byte a b c d 0
theorem mean_g (a b c d m : Col) (h : m = Col.mean a b c d) : (m.g.toNat : Int) = (a.g.toNat + b.g.toNat + c.g.toNat + d.g.toNat + 2) / 4 := by subst h; exact mean_byte a b c d 1
theorem mean_b (a b c d m : Col) (h : m = Col.mean a b c d) : (m.b.toNat : Int) = (a.b.toNat + b.b.toNat + c.b.toNat + d.b.toNat + 2) / 4 := by subst h; exact mean_byte a b c d 2
theorem mean_a (a b c d m : Col) (h : m = Col.mean a b c d) : (m.a.toNat : Int) = (a.a.toNat + b.a.toNat + c.a.toNat + d.a.toNat + 2) / 4 := by subst h; exact mean_byte a b c d 3
theorem means_between (a b c d m : UInt8) (lo hi : Int) (h : (m.toNat : Int) = (a.toNat + b.toNat + c.toNat + d.toNat + 2) / 4) (ha : lo ≤ (a.toNat : Int) ∧ (a.toNat : Int) ≤ hi) (hb : lo ≤ (b.toNat : Int) ∧ (b.toNat : Int) ≤ hi) (hc : lo ≤ (c.toNat : Int) ∧ (c.toNat : Int) ≤ hi) (hd : lo ≤ (d.toNat : Int) ∧ (d.toNat : Int) ≤ hi) : lo ≤ (m.toNat : Int) ∧ (m.toNat : Int) ≤ hi := by omega

set_option maxRecDepth 100000 in
theorem means_early (d : Int) (wrap : Bool) (A : Option Addr) (n c : Nat) (lev x y k : Int) (w : World) (h : 50 < n ∨ k < -5 ∨ 5 < k) :
    Calls Try.prog 3 #[.int .i64 d, .bool wrap, .slice A n c, .int .i64 lev, .int .i64 x, .int .i64 y, .int .i64 k] w fun e w' => e = .returned (.bool true) ∧ Gr w w' := by
  have HA : Hid _ := fun w' => awake14 w'
  have H : Hid _ := h
  clear h
  go_enter Try.func3, Try.ntmps3
  by_cases h1 : 50 < (n : Int)
  · have h1n : 50 < n := by omega
    have h1b : decide (50 < (n : Int)) = true := by simp; omega
    go_wp2_with (go_at_call 8; refine (HA.out _).mono ?_; rintro e w' ⟨rfl, hG⟩)
    go_ret
    exact ⟨rfl, hG⟩
  · have h1n : ¬ 50 < n := by omega
    have h1b : decide (50 < (n : Int)) = false := by simp; omega
    by_cases h2 : k < -5
    · have h2b : decide (k < -5) = true := by simp; omega
      go_wp2_with (go_at_call 8; refine (HA.out _).mono ?_; rintro e w' ⟨rfl, hG⟩)
      go_ret
      exact ⟨rfl, hG⟩
    · have h3 : 5 < k := by have := H.out; omega
      have h2b : decide (k < -5) = false := by simp; omega
      have h3b : decide (5 < k) = true := by simp; omega
      go_wp2_with (go_at_call 8; refine (HA.out _).mono ?_; rintro e w' ⟨rfl, hG⟩)
      go_ret
      exact ⟨rfl, hG⟩

set_option maxRecDepth 100000 in
set_option maxHeartbeats 4000000 in
theorem means_core (d : Int) (wrap : Bool) (A : Option Addr) (n c : Nat) (lev x y k : Int) (w : World) (D : Nat) (hD : D ≤ 3) (hn : n ≤ 50) (hk1 : -5 ≤ k) (hk2 : k ≤ 5)
    (hP : ∀ w', Gr w w' → Calls Try.prog 9 #[.int .i64 d, .bool wrap, .slice A n c] w' (PaintPost w' D (sideN D 0) wrap)) :
    Calls Try.prog 3 #[.int .i64 d, .bool wrap, .slice A n c, .int .i64 lev, .int .i64 x, .int .i64 y, .int .i64 k] w fun e w' => e = .returned (.bool true) ∧ Gr w w' := by
  have HA : Hid _ := fun w' => awake14 w'
  have HP : Hid _ := hP
  clear hP
  have hnI : ¬ 50 < (n : Int) := by omega
  have hnN : ¬ 50 < n := by omega
  have b1 : decide (50 < (n : Int)) = false := by simp; omega
  have b2 : decide (k < -5) = false := by simp; omega
  have b3 : decide (5 < k) = false := by simp; omega
  go_enter Try.func3, Try.ntmps3
  go_wp2_with (first
    | (go_at_call 9; refine (HP.out _ (Gr.refl w)).mono ?_; rintro e w2 ⟨ts, A2, c2, rfl, hts, hA, hG2⟩))
  have HB : Hid _ := fun w' (h : Gr w2 w') => build_any A2 c2 D ts wrap w' hD hts (hA.gr h)
  rw [hts] at HB
  refine (HB.out _ ((Gr.refl w2).alloc _)).mono ?_
  rintro e w3 ⟨g, rfl, hp, hG3, hge⟩
  have hT3 := hG3.heap (heap_alloc_new w2 (.cells #[.int .i64 D, .bool wrap, .slice A2 (sideN D 0 * sideN D 0) c2] 26))
  have hG03 : Gr w w3 := (hG2.alloc _).trans hG3
  have c0 := row_cell (v := .int .i64 D) hT3 0 rfl
  clear hG2 hG3 hge hA hT3 HP HB
  generalize w2.heap.size = gt at *
  obtain ⟨m, hm⟩ := Int.eq_ofNat_of_zero_le (Int.emod_nonneg lev (show (D : Int) + 1 ≠ 0 by omega))
  have hmD : m ≤ D := by have := Int.emod_lt_of_pos lev (show (0 : Int) < (D : Int) + 1 by omega); omega
  have Hm : Hid _ := hm
  clear hm
  have bw : wrap64 ((D : Int) + 1) = (D : Int) + 1 := IntWalk.wrap64_in _ (by omega)
  obtain ⟨S, hS⟩ : ∃ S, sideN D m = S := ⟨_, rfl⟩
  have hSb := sideN_bd D m hD
  rw [hS] at hSb
  have HS : Hid (∀ w', Gr w3 w' → Calls Try.prog 12 #[.pointer (some ⟨g, 0, none⟩), .int .i64 (m : Int)] w' fun e w'' => e = .returned (.int .i64 (S : Int)) ∧ w' = w'') := fun w' hG => by
    have := size_any g _ (m : Int) w' (hp.gr hG)
    have e : (pyrOf D wrap ts).size (m : Int) = (S : Int) := by simp [Pyr.size, pyrOf, hmD, hS]
    rwa [e] at this
  have hsub : (D : Int) - (m : Int) = ((D - m : Nat) : Int) := by omega
  have bs : wrap64 ((D : Int) - (m : Int)) = ((D - m : Nat) : Int) := by rw [hsub]; exact IntWalk.wrap64_in _ (by omega)
  have bsh : wrap64 (4 * 2 ^ (D - m)) = (S : Int) := by rw [← hS]; exact size_shl D m hD
  have Hp : Hid _ := hp
  have HSS : Hid _ := hS
  clear hp hS hsub
  go_wp2_with fail
  refine (round17u lev ((D : Int) + 1) _ (by omega) (by omega)).mono ?_
  rintro e w' ⟨rfl, rfl⟩
  rw [Hm.out]
  go_wp2_with fail
  refine (HS.out _ (Gr.refl _)).mono ?_
  rintro e w' ⟨rfl, rfl⟩
  go_wp2_with fail
  clear bsh bs bw
  obtain ⟨i, hi⟩ := Int.eq_ofNat_of_zero_le (Int.emod_nonneg x (show (S : Int) ≠ 0 by omega))
  have hiS : i < S := by have := Int.emod_lt_of_pos x (show (0 : Int) < (S : Int) by omega); omega
  obtain ⟨j, hj⟩ := Int.eq_ofNat_of_zero_le (Int.emod_nonneg y (show (S : Int) ≠ 0 by omega))
  have hjS : j < S := by have := Int.emod_lt_of_pos y (show (0 : Int) < (S : Int) by omega); omega
  have Hi : Hid _ := hi
  have Hj : Hid _ := hj
  clear hi hj
  refine (round17u x (S : Int) _ (by omega) (by omega)).mono ?_
  rintro e w' ⟨rfl, rfl⟩
  rw [Hi.out]
  go_wp2_with fail
  refine (round17u y (S : Int) _ (by omega) (by omega)).mono ?_
  rintro e w' ⟨rfl, rfl⟩
  rw [Hj.out]
  have HAT : Hid (∀ (l x y : Int) w', Gr w3 w' → (-9223372036854775808 ≤ x ∧ x ≤ 9223372036854775807) → (-9223372036854775808 ≤ y ∧ y ≤ 9223372036854775807) → Calls Try.prog 13 #[.pointer (some ⟨g, 0, none⟩), .int .i64 l, .int .i64 x, .int .i64 y] w' fun e w'' => e = .returned ((pyrOf D wrap ts).at l x y).val ∧ Gr w' w'') :=
    fun l x y w' hG h1 h2 => at_pyr g _ l x y w' (Hp.out.gr hG) h1.1 h1.2 h2.1 h2.2
  obtain ⟨cc, hcc⟩ : ∃ cc, (pyrOf D wrap ts).at (m : Int) (i : Int) (j : Int) = cc := ⟨_, rfl⟩
  have Hcc : Hid _ := hcc
  clear hcc
  go_wp2_with fail
  refine (HAT.out (m : Int) (i : Int) (j : Int) _ (Gr.refl _) (by omega) (by omega)).mono ?_
  rintro e w4 ⟨rfl, hG4⟩
  rw [Hcc.out]
  have hTc := heap_alloc_new w4 (.cells cc.cells.toArray 35)
  have hG5 := hG4.alloc (.cells cc.cells.toArray 35)
  obtain ⟨kk, hkk⟩ : ∃ kk : Int, k * k = kk := ⟨_, rfl⟩
  have hkk0 : 0 ≤ kk ∧ kk ≤ 25 := by
    have h : k = -5 ∨ k = -4 ∨ k = -3 ∨ k = -2 ∨ k = -1 ∨ k = 0 ∨ k = 1 ∨ k = 2 ∨ k = 3 ∨ k = 4 ∨ k = 5 := by omega
    subst hkk
    rcases h with rfl | rfl | rfl | rfl | rfl | rfl | rfl | rfl | rfl | rfl | rfl <;> decide
  have hkk1 := hkk0.1
  have hkk2 := hkk0.2
  have ek : wrap64 (k * k) = kk := by rw [hkk]; exact IntWalk.wrap64_in _ (by omega)
  have HAW : Hid (wrap = true → ∀ w', Gr w3 w' → Calls Try.prog 13 #[.pointer (some ⟨g, 0, none⟩), .int .i64 (m : Int), .int .i64 (wrap64 ((i : Int) + wrap64 (k * (S : Int)))), .int .i64 (wrap64 ((j : Int) - wrap64 (k * (S : Int))))] w' fun e w'' => e = .returned cc.val ∧ Gr w' w'') := fun hw w' hG => by
    have hb1 : k * (S : Int) ≤ 5 * 32 := by
      rcases Int.le_total 0 k with h | h
      · exact Int.mul_le_mul hk2 (by omega) (by omega) (by omega)
      · have := Int.mul_nonneg (show 0 ≤ -k by omega) (show 0 ≤ (S : Int) by omega)
        rw [Int.neg_mul] at this; omega
    have hb2 : -(5 * 32) ≤ k * (S : Int) := by
      rcases Int.le_total 0 k with h | h
      · have := Int.mul_nonneg h (show 0 ≤ (S : Int) by omega); omega
      · have := Int.mul_le_mul (show -k ≤ 5 by omega) (show (S : Int) ≤ 32 by omega) (by omega) (by omega)
        rw [Int.neg_mul] at this; omega
    rw [IntWalk.wrap64_in (k * (S : Int)) (by omega), IntWalk.wrap64_in _ (by omega), IntWalk.wrap64_in _ (by omega)]
    have h := HAT.out (m : Int) ((i : Int) + k * (S : Int)) ((j : Int) - k * (S : Int)) w' hG (by omega) (by omega)
    rwa [at_round (pyrOf D wrap ts) hw (m : Int) (i : Int) (j : Int) k (S : Int) (by rw [← HSS.out]; rfl), Hcc.out] at h
  clear hkk
  by_cases hm0 : 0 < m
  · have hm0I : decide (0 < (m : Int)) = true := by simp; omega
    go_wp2_with fail
    obtain ⟨m1, hm1⟩ : ∃ m1, m = m1 + 1 := ⟨m - 1, by omega⟩
    have hm1I : (m : Int) - 1 = (m1 : Int) := by omega
    have Hm1 : Hid _ := hm1
    have Hm1I : Hid _ := hm1I
    clear hm1 hm1I
    obtain ⟨TQ, hTQ⟩ : ∃ TQ : Nat → Col, TQ = fun q : Nat => (pyrOf D wrap ts).at (m1 : Int) (2 * (i : Int) + (q : Int) % 2) (2 * (j : Int) + (q : Int) / 2) := ⟨_, rfl⟩
    have HAQ : Hid (∀ (q : Nat) w', q < 4 → Gr w3 w' → Calls Try.prog 13 #[.pointer (some ⟨g, 0, none⟩), .int .i64 ((m : Int) - 1), .int .i64 (2 * (i : Int) + (q : Int) % 2), .int .i64 (2 * (j : Int) + (q : Int) / 2)] w' fun e w'' => e = .returned (TQ q).val ∧ Gr w' w'') := fun q w' hq hG => by
      subst hTQ
      rw [Hm1I.out]
      exact HAT.out (m1 : Int) (2 * (i : Int) + (q : Int) % 2) (2 * (j : Int) + (q : Int) / 2) w' hG (by omega) (by omega)
    have HMN : cc = Col.mean (TQ 0) (TQ 1) (TQ 2) (TQ 3) := by
      have h := at_mean D wrap ts m1 i j (by have := Hm1.out; omega) (by rw [← Hm1.out, HSS.out]; exact hiS) (by rw [← Hm1.out, HSS.out]; exact hjS)
      rw [← Hm1.out, Hcc.out] at h
      subst hTQ
      exact h
    have HMN0 : Hid _ := mean_r _ _ _ _ _ HMN
    have HMN1 : Hid _ := mean_g _ _ _ _ _ HMN
    have HMN2 : Hid _ := mean_b _ _ _ _ _ HMN
    have HMN3 : Hid _ := mean_a _ _ _ _ _ HMN
    clear HMN hTQ
    go_loopw [23] (fun vb wr => ∃ b : Nat, vb = .int .i64 (b : Int) ∧ b ≤ 4 ∧ Gr (w4.alloc (.cells cc.cells.toArray 35)) wr) (fun vb _ => 4 - (intOf vb).toNat)
    case atStart => exact ⟨0, rfl, by omega, Gr.refl _⟩
    case round =>
      obtain ⟨b, rfl, hb4, hGb⟩ := ‹∃ b : Nat, _›
      by_cases hlt : b < 4
      · have hb : b = 0 ∨ b = 1 ∨ b = 2 ∨ b = 3 := by omega
        clear hlt hb4
        rcases hb with rfl | rfl | rfl | rfl
        · go_wp2_with fail
          go_loopw [24, 25, 26] (fun vl vh vq wr2 => ∃ (lo hi : Int) (q : Nat), vl = .int .i64 lo ∧ vh = .int .i64 hi ∧ vq = .int .i64 (q : Int) ∧ q ≤ 4 ∧ 0 ≤ lo ∧ lo ≤ 255 ∧ 0 ≤ hi ∧ hi ≤ 255 ∧ (∀ q' : Nat, q' < q → lo ≤ ((TQ q').r.toNat : Int) ∧ ((TQ q').r.toNat : Int) ≤ hi) ∧ Gr _ wr2) (fun vl vh vq _ => 4 - (intOf vq).toNat)
          case atStart => exact ⟨255, 0, 0, rfl, rfl, rfl, by omega, by omega, by omega, by omega, by omega, fun q' h => absurd h (Nat.not_lt_zero _), Gr.refl _⟩
          case round =>
            obtain ⟨lo, hi, q, rfl, rfl, rfl, hq4, hl1, hl2, hh1, hh2, hbd, hGq⟩ := ‹∃ (lo hi : Int) (q : Nat), _›
            have HBD : Hid _ := hbd
            clear hbd
            by_cases hql : q < 4
            · have hqlI : (q : Int) < 4 := by omega
              have hv := u8_bd (TQ q).r
              have hv1 := hv.1
              have hv2 := hv.2
              go_wp2_with fail
              refine (HAQ.out q _ hql ((hG5.trans hGb).trans hGq)).mono ?_
              rintro e w6 ⟨rfl, hG6⟩
              have ix : ∀ w : World, (Instr.index 35 (.agg #[.int .u8 ((TQ q).r.toNat : Int), .int .u8 ((TQ q).g.toNat : Int), .int .u8 ((TQ q).b.toNat : Int), .int .u8 ((TQ q).a.toNat : Int)]) (.int .i64 0)).run Try.prog w = .ok (.int .u8 ((TQ q).r.toNat : Int)) w := fun _ => by kernel_rfl
              go_wp2_with fail
              all_goals
                go_roundw
                case measure => simp [intOf]; omega
                case rel =>
                  first
                  | (refine ⟨_, _, _, ⟨_, rfl, _, rfl, q + 1, rfl, by omega, by omega, by omega, by omega, by omega, fun q' h => ?_, hGq.trans hG6⟩, rfl, rfl, rfl⟩
                     by_cases h' : q' = q
                     · subst h'; omega
                     · have := HBD.out q' (by omega); omega)
                  | (refine ⟨_, _, q + 1, rfl, rfl, rfl, by omega, by omega, by omega, by omega, by omega, fun q' h => ?_, hGq.trans hG6⟩
                     by_cases h' : q' = q
                     · subst h'; omega
                     · have := HBD.out q' (by omega); omega)
            · have hq4 : q = 4 := by omega
              subst hq4
              have hcb : _ := row_cell (v := .int .u8 cc.r.toNat) (((hGb.trans hGq)).heap hTc) 0 rfl
              have hlh := means_between (TQ 0).r (TQ 1).r (TQ 2).r (TQ 3).r cc.r lo hi HMN0.out (HBD.out 0 (by omega)) (HBD.out 1 (by omega)) (HBD.out 2 (by omega)) (HBD.out 3 (by omega))
              have hlo : decide ((cc.r.toNat : Int) < lo) = false := by simp; omega
              have hhi : decide (hi < (cc.r.toNat : Int)) = false := by simp; omega
              have hv := u8_bd cc.r
              have hv1 := hv.1
              have hv2 := hv.2
              go_wp2_with fail
              go_roundw
              case rel => exact ⟨1, rfl, by omega, hGb.trans hGq⟩
              case measure => simp [intOf]
        · go_wp2_with fail
          go_loopw [24, 25, 26] (fun vl vh vq wr2 => ∃ (lo hi : Int) (q : Nat), vl = .int .i64 lo ∧ vh = .int .i64 hi ∧ vq = .int .i64 (q : Int) ∧ q ≤ 4 ∧ 0 ≤ lo ∧ lo ≤ 255 ∧ 0 ≤ hi ∧ hi ≤ 255 ∧ (∀ q' : Nat, q' < q → lo ≤ ((TQ q').g.toNat : Int) ∧ ((TQ q').g.toNat : Int) ≤ hi) ∧ Gr _ wr2) (fun vl vh vq _ => 4 - (intOf vq).toNat)
          case atStart => exact ⟨255, 0, 0, rfl, rfl, rfl, by omega, by omega, by omega, by omega, by omega, fun q' h => absurd h (Nat.not_lt_zero _), Gr.refl _⟩
          case round =>
            obtain ⟨lo, hi, q, rfl, rfl, rfl, hq4, hl1, hl2, hh1, hh2, hbd, hGq⟩ := ‹∃ (lo hi : Int) (q : Nat), _›
            have HBD : Hid _ := hbd
            clear hbd
            by_cases hql : q < 4
            · have hqlI : (q : Int) < 4 := by omega
              have hv := u8_bd (TQ q).g
              have hv1 := hv.1
              have hv2 := hv.2
              go_wp2_with fail
              refine (HAQ.out q _ hql ((hG5.trans hGb).trans hGq)).mono ?_
              rintro e w6 ⟨rfl, hG6⟩
              have ix : ∀ w : World, (Instr.index 35 (.agg #[.int .u8 ((TQ q).r.toNat : Int), .int .u8 ((TQ q).g.toNat : Int), .int .u8 ((TQ q).b.toNat : Int), .int .u8 ((TQ q).a.toNat : Int)]) (.int .i64 1)).run Try.prog w = .ok (.int .u8 ((TQ q).g.toNat : Int)) w := fun _ => by kernel_rfl
              go_wp2_with fail
              all_goals
                go_roundw
                case measure => simp [intOf]; omega
                case rel =>
                  first
                  | (refine ⟨_, _, _, ⟨_, rfl, _, rfl, q + 1, rfl, by omega, by omega, by omega, by omega, by omega, fun q' h => ?_, hGq.trans hG6⟩, rfl, rfl, rfl⟩
                     by_cases h' : q' = q
                     · subst h'; omega
                     · have := HBD.out q' (by omega); omega)
                  | (refine ⟨_, _, q + 1, rfl, rfl, rfl, by omega, by omega, by omega, by omega, by omega, fun q' h => ?_, hGq.trans hG6⟩
                     by_cases h' : q' = q
                     · subst h'; omega
                     · have := HBD.out q' (by omega); omega)
            · have hq4 : q = 4 := by omega
              subst hq4
              have hcb : _ := row_cell (v := .int .u8 cc.g.toNat) (((hGb.trans hGq)).heap hTc) 1 rfl
              have hlh := means_between (TQ 0).g (TQ 1).g (TQ 2).g (TQ 3).g cc.g lo hi HMN1.out (HBD.out 0 (by omega)) (HBD.out 1 (by omega)) (HBD.out 2 (by omega)) (HBD.out 3 (by omega))
              have hlo : decide ((cc.g.toNat : Int) < lo) = false := by simp; omega
              have hhi : decide (hi < (cc.g.toNat : Int)) = false := by simp; omega
              have hv := u8_bd cc.g
              have hv1 := hv.1
              have hv2 := hv.2
              go_wp2_with fail
              go_roundw
              case rel => exact ⟨2, rfl, by omega, hGb.trans hGq⟩
              case measure => simp [intOf]
        · go_wp2_with fail
          go_loopw [24, 25, 26] (fun vl vh vq wr2 => ∃ (lo hi : Int) (q : Nat), vl = .int .i64 lo ∧ vh = .int .i64 hi ∧ vq = .int .i64 (q : Int) ∧ q ≤ 4 ∧ 0 ≤ lo ∧ lo ≤ 255 ∧ 0 ≤ hi ∧ hi ≤ 255 ∧ (∀ q' : Nat, q' < q → lo ≤ ((TQ q').b.toNat : Int) ∧ ((TQ q').b.toNat : Int) ≤ hi) ∧ Gr _ wr2) (fun vl vh vq _ => 4 - (intOf vq).toNat)
          case atStart => exact ⟨255, 0, 0, rfl, rfl, rfl, by omega, by omega, by omega, by omega, by omega, fun q' h => absurd h (Nat.not_lt_zero _), Gr.refl _⟩
          case round =>
            obtain ⟨lo, hi, q, rfl, rfl, rfl, hq4, hl1, hl2, hh1, hh2, hbd, hGq⟩ := ‹∃ (lo hi : Int) (q : Nat), _›
            have HBD : Hid _ := hbd
            clear hbd
            by_cases hql : q < 4
            · have hqlI : (q : Int) < 4 := by omega
              have hv := u8_bd (TQ q).b
              have hv1 := hv.1
              have hv2 := hv.2
              go_wp2_with fail
              refine (HAQ.out q _ hql ((hG5.trans hGb).trans hGq)).mono ?_
              rintro e w6 ⟨rfl, hG6⟩
              have ix : ∀ w : World, (Instr.index 35 (.agg #[.int .u8 ((TQ q).r.toNat : Int), .int .u8 ((TQ q).g.toNat : Int), .int .u8 ((TQ q).b.toNat : Int), .int .u8 ((TQ q).a.toNat : Int)]) (.int .i64 2)).run Try.prog w = .ok (.int .u8 ((TQ q).b.toNat : Int)) w := fun _ => by kernel_rfl
              go_wp2_with fail
              all_goals
                go_roundw
                case measure => simp [intOf]; omega
                case rel =>
                  first
                  | (refine ⟨_, _, _, ⟨_, rfl, _, rfl, q + 1, rfl, by omega, by omega, by omega, by omega, by omega, fun q' h => ?_, hGq.trans hG6⟩, rfl, rfl, rfl⟩
                     by_cases h' : q' = q
                     · subst h'; omega
                     · have := HBD.out q' (by omega); omega)
                  | (refine ⟨_, _, q + 1, rfl, rfl, rfl, by omega, by omega, by omega, by omega, by omega, fun q' h => ?_, hGq.trans hG6⟩
                     by_cases h' : q' = q
                     · subst h'; omega
                     · have := HBD.out q' (by omega); omega)
            · have hq4 : q = 4 := by omega
              subst hq4
              have hcb : _ := row_cell (v := .int .u8 cc.b.toNat) (((hGb.trans hGq)).heap hTc) 2 rfl
              have hlh := means_between (TQ 0).b (TQ 1).b (TQ 2).b (TQ 3).b cc.b lo hi HMN2.out (HBD.out 0 (by omega)) (HBD.out 1 (by omega)) (HBD.out 2 (by omega)) (HBD.out 3 (by omega))
              have hlo : decide ((cc.b.toNat : Int) < lo) = false := by simp; omega
              have hhi : decide (hi < (cc.b.toNat : Int)) = false := by simp; omega
              have hv := u8_bd cc.b
              have hv1 := hv.1
              have hv2 := hv.2
              go_wp2_with fail
              go_roundw
              case rel => exact ⟨3, rfl, by omega, hGb.trans hGq⟩
              case measure => simp [intOf]
        · go_wp2_with fail
          go_loopw [24, 25, 26] (fun vl vh vq wr2 => ∃ (lo hi : Int) (q : Nat), vl = .int .i64 lo ∧ vh = .int .i64 hi ∧ vq = .int .i64 (q : Int) ∧ q ≤ 4 ∧ 0 ≤ lo ∧ lo ≤ 255 ∧ 0 ≤ hi ∧ hi ≤ 255 ∧ (∀ q' : Nat, q' < q → lo ≤ ((TQ q').a.toNat : Int) ∧ ((TQ q').a.toNat : Int) ≤ hi) ∧ Gr _ wr2) (fun vl vh vq _ => 4 - (intOf vq).toNat)
          case atStart => exact ⟨255, 0, 0, rfl, rfl, rfl, by omega, by omega, by omega, by omega, by omega, fun q' h => absurd h (Nat.not_lt_zero _), Gr.refl _⟩
          case round =>
            obtain ⟨lo, hi, q, rfl, rfl, rfl, hq4, hl1, hl2, hh1, hh2, hbd, hGq⟩ := ‹∃ (lo hi : Int) (q : Nat), _›
            have HBD : Hid _ := hbd
            clear hbd
            by_cases hql : q < 4
            · have hqlI : (q : Int) < 4 := by omega
              have hv := u8_bd (TQ q).a
              have hv1 := hv.1
              have hv2 := hv.2
              go_wp2_with fail
              refine (HAQ.out q _ hql ((hG5.trans hGb).trans hGq)).mono ?_
              rintro e w6 ⟨rfl, hG6⟩
              have ix : ∀ w : World, (Instr.index 35 (.agg #[.int .u8 ((TQ q).r.toNat : Int), .int .u8 ((TQ q).g.toNat : Int), .int .u8 ((TQ q).b.toNat : Int), .int .u8 ((TQ q).a.toNat : Int)]) (.int .i64 3)).run Try.prog w = .ok (.int .u8 ((TQ q).a.toNat : Int)) w := fun _ => by kernel_rfl
              go_wp2_with fail
              all_goals
                go_roundw
                case measure => simp [intOf]; omega
                case rel =>
                  first
                  | (refine ⟨_, _, _, ⟨_, rfl, _, rfl, q + 1, rfl, by omega, by omega, by omega, by omega, by omega, fun q' h => ?_, hGq.trans hG6⟩, rfl, rfl, rfl⟩
                     by_cases h' : q' = q
                     · subst h'; omega
                     · have := HBD.out q' (by omega); omega)
                  | (refine ⟨_, _, q + 1, rfl, rfl, rfl, by omega, by omega, by omega, by omega, by omega, fun q' h => ?_, hGq.trans hG6⟩
                     by_cases h' : q' = q
                     · subst h'; omega
                     · have := HBD.out q' (by omega); omega)
            · have hq4 : q = 4 := by omega
              subst hq4
              have hcb : _ := row_cell (v := .int .u8 cc.a.toNat) (((hGb.trans hGq)).heap hTc) 3 rfl
              have hlh := means_between (TQ 0).a (TQ 1).a (TQ 2).a (TQ 3).a cc.a lo hi HMN3.out (HBD.out 0 (by omega)) (HBD.out 1 (by omega)) (HBD.out 2 (by omega)) (HBD.out 3 (by omega))
              have hlo : decide ((cc.a.toNat : Int) < lo) = false := by simp; omega
              have hhi : decide (hi < (cc.a.toNat : Int)) = false := by simp; omega
              have hv := u8_bd cc.a
              have hv1 := hv.1
              have hv2 := hv.2
              go_wp2_with fail
              go_roundw
              case rel => exact ⟨4, rfl, by omega, hGb.trans hGq⟩
              case measure => simp [intOf]
      · have hb4 : b = 4 := by omega
        subst hb4
        cases wrap
        · clear HAW
          go_wp2_with fail
          refine (HAT.out (m : Int) (-1 - kk) (j : Int) _ ((hG5.trans hGb)) (by omega) (by omega)).mono ?_
          rintro e w6 ⟨rfl, hG6⟩
          go_wp2_with fail
          refine (HAT.out (m : Int) 0 (j : Int) _ (((hG5.trans hGb)).trans hG6) (by omega) (by omega)).mono ?_
          rintro e w7 ⟨rfl, hG7⟩
          have q1 : ∀ w', (binOp .eql 35 ((pyrOf D false ts).at (m : Int) (-1 - kk) (j : Int)).val ((pyrOf D false ts).at (m : Int) 0 (j : Int)).val).run Try.prog w' = .ok (.bool true) w' := fun w' => by
            rw [col_eql, at_held0 _ rfl _ _ _ hkk0.1, decide_eq_true rfl]
          go_wp2_with fail
          refine (HAT.out (m : Int) ((S : Int) + kk) (S : Int) _ ((((hG5.trans hGb)).trans hG6).trans hG7) (by omega) (by omega)).mono ?_
          rintro e w8 ⟨rfl, hG8⟩
          go_wp2_with fail
          refine (HAT.out (m : Int) ((S : Int) - 1) ((S : Int) - 1) _ (((((hG5.trans hGb)).trans hG6).trans hG7).trans hG8) (by omega) (by omega)).mono ?_
          rintro e w9 ⟨rfl, hG9⟩
          have q2 : ∀ w', (binOp .eql 35 ((pyrOf D false ts).at (m : Int) ((S : Int) + kk) (S : Int)).val ((pyrOf D false ts).at (m : Int) ((S : Int) - 1) ((S : Int) - 1)).val).run Try.prog w' = .ok (.bool true) w' := fun w' => by
            rw [col_eql, at_held1 _ rfl _ _ hkk0.1 (S : Int) (by rw [← HSS.out]; rfl), decide_eq_true rfl]
          go_wp2_with (go_at_call 8; refine (HA.out _).mono ?_; rintro e w10 ⟨rfl, hG10⟩)
          go_ret
          exact ⟨rfl, hG03.trans ((((((hG5.trans hGb)).trans hG6).trans hG7).trans hG8).trans hG9 |>.trans hG10)⟩
        · have HAWt := HAW.out rfl
          clear HAW
          have HAW : Hid _ := HAWt
          clear HAWt
          go_wp2_with fail
          refine wp_region_lex [(0, .p), (1, .p), (2, .p), (3, .p), (4, .p), (5, .p), (6, .p), (7, .p), (8, .p), (9, .p), (10, .p), (11, .p), (12, .t), (13, .t), (14, .p), (15, .p), (16, .t), (17, .p), (18, .p)] [] (by kernel_rfl) (by kernel_rfl) ?_
          iterate 12 (refine lexG_p rfl (fun K hK => ?_); go_simp; (try go_bits); refine hK _ ?_; clear hK K)
          refine lexG_tx rfl rfl rfl ?_; apply Exists.intro; refine ⟨fun w' hG => ?_, ?_⟩
          · go_simp
            exact HAW.out w' (((hG5.trans hGb)).trans hG)
          simp only [Act.put, List.setIfInBounds_toArray, List.set_cons_zero, List.set_cons_succ]
          refine lexG_loadn (cs := cc.cells) rfl rfl rfl rfl rfl agg_col size_col (fun j u hu => by rw [Addr.add_lit, Nat.zero_add]; exact row_cell (hGb.heap hTc) j (by simpa using hu)) ?_
          simp only [Act.put, List.setIfInBounds_toArray, List.set_cons_zero, List.set_cons_succ]
          have qe : ∀ w', (binOp .eql 35 cc.val cc.val).run Try.prog w' = .ok (.bool true) w' := fun w' => by rw [col_eql, decide_eq_true rfl]
          iterate 2 (refine lexG_p rfl (fun K hK => ?_); go_simp; (try go_bits); refine hK _ ?_; clear hK K)
          refine lexG_tx rfl rfl rfl ?_; apply Exists.intro; refine ⟨fun w' hG => ?_, ?_⟩
          · go_simp
            exact HA.out w'
          simp only [Act.put, List.setIfInBounds_toArray, List.set_cons_zero, List.set_cons_succ]
          iterate 2 (refine lexG_p rfl (fun K hK => ?_); go_simp; (try go_bits); refine hK _ ?_; clear hK K)
          refine lexG_nil fun w11 hG11 => ?_
          go_wp2_with fail
          go_ret
          exact ⟨rfl, hG03.trans (((hG5.trans hGb)).trans hG11)⟩
  · have hm0I : decide (0 < (m : Int)) = false := by simp; omega
    cases wrap
    · clear HAW
      go_wp2_with fail
      refine (HAT.out (m : Int) (-1 - kk) (j : Int) _ (hG5) (by omega) (by omega)).mono ?_
      rintro e w6 ⟨rfl, hG6⟩
      go_wp2_with fail
      refine (HAT.out (m : Int) 0 (j : Int) _ ((hG5).trans hG6) (by omega) (by omega)).mono ?_
      rintro e w7 ⟨rfl, hG7⟩
      have q1 : ∀ w', (binOp .eql 35 ((pyrOf D false ts).at (m : Int) (-1 - kk) (j : Int)).val ((pyrOf D false ts).at (m : Int) 0 (j : Int)).val).run Try.prog w' = .ok (.bool true) w' := fun w' => by
        rw [col_eql, at_held0 _ rfl _ _ _ hkk0.1, decide_eq_true rfl]
      go_wp2_with fail
      refine (HAT.out (m : Int) ((S : Int) + kk) (S : Int) _ (((hG5).trans hG6).trans hG7) (by omega) (by omega)).mono ?_
      rintro e w8 ⟨rfl, hG8⟩
      go_wp2_with fail
      refine (HAT.out (m : Int) ((S : Int) - 1) ((S : Int) - 1) _ ((((hG5).trans hG6).trans hG7).trans hG8) (by omega) (by omega)).mono ?_
      rintro e w9 ⟨rfl, hG9⟩
      have q2 : ∀ w', (binOp .eql 35 ((pyrOf D false ts).at (m : Int) ((S : Int) + kk) (S : Int)).val ((pyrOf D false ts).at (m : Int) ((S : Int) - 1) ((S : Int) - 1)).val).run Try.prog w' = .ok (.bool true) w' := fun w' => by
        rw [col_eql, at_held1 _ rfl _ _ hkk0.1 (S : Int) (by rw [← HSS.out]; rfl), decide_eq_true rfl]
      go_wp2_with (go_at_call 8; refine (HA.out _).mono ?_; rintro e w10 ⟨rfl, hG10⟩)
      go_ret
      exact ⟨rfl, hG03.trans (((((hG5).trans hG6).trans hG7).trans hG8).trans hG9 |>.trans hG10)⟩
    · have HAWt := HAW.out rfl
      clear HAW
      have HAW : Hid _ := HAWt
      clear HAWt
      go_wp2_with fail
      refine wp_region_lex [(0, .p), (1, .p), (2, .p), (3, .p), (4, .p), (5, .p), (6, .p), (7, .p), (8, .p), (9, .p), (10, .p), (11, .p), (12, .t), (13, .t), (14, .p), (15, .p), (16, .t), (17, .p), (18, .p)] [] (by kernel_rfl) (by kernel_rfl) ?_
      iterate 12 (refine lexG_p rfl (fun K hK => ?_); go_simp; (try go_bits); refine hK _ ?_; clear hK K)
      refine lexG_tx rfl rfl rfl ?_; apply Exists.intro; refine ⟨fun w' hG => ?_, ?_⟩
      · go_simp
        exact HAW.out w' ((hG5).trans hG)
      simp only [Act.put, List.setIfInBounds_toArray, List.set_cons_zero, List.set_cons_succ]
      refine lexG_loadn (cs := cc.cells) rfl rfl rfl rfl rfl agg_col size_col (fun j u hu => by rw [Addr.add_lit, Nat.zero_add]; exact row_cell hTc j (by simpa using hu)) ?_
      simp only [Act.put, List.setIfInBounds_toArray, List.set_cons_zero, List.set_cons_succ]
      have qe : ∀ w', (binOp .eql 35 cc.val cc.val).run Try.prog w' = .ok (.bool true) w' := fun w' => by rw [col_eql, decide_eq_true rfl]
      iterate 2 (refine lexG_p rfl (fun K hK => ?_); go_simp; (try go_bits); refine hK _ ?_; clear hK K)
      refine lexG_tx rfl rfl rfl ?_; apply Exists.intro; refine ⟨fun w' hG => ?_, ?_⟩
      · go_simp
        exact HA.out w'
      simp only [Act.put, List.setIfInBounds_toArray, List.set_cons_zero, List.set_cons_succ]
      iterate 2 (refine lexG_p rfl (fun K hK => ?_); go_simp; (try go_bits); refine hK _ ?_; clear hK K)
      refine lexG_nil fun w11 hG11 => ?_
      go_wp2_with fail
      go_ret
      exact ⟨rfl, hG03.trans ((hG5).trans hG11)⟩

theorem means_any (d : Int) (wrap : Bool) (A : Option Addr) (c : Nat) (l : List Int) (lev x y k : Int) (w : World) (hl : Ints w A l) (hb : ∀ x ∈ l, -9223372036854775808 ≤ x ∧ x ≤ 9223372036854775807) :
    Calls Try.prog 3 #[.int .i64 d, .bool wrap, .slice A l.length c, .int .i64 lev, .int .i64 x, .int .i64 y, .int .i64 k] w fun e w' => e = .returned (.bool true) ∧ Gr w w' := by
  by_cases h : 50 < l.length ∨ k < -5 ∨ 5 < k
  · exact means_early d wrap A l.length c lev x y k w h
  · exact means_core d wrap A l.length c lev x y k w (d % 4).toNat (by omega) (by omega) (by omega) (by omega) (fun w' hG => paint_any A c l d wrap w' (hl.gr hG) hb (by omega))
end Go.Proofs.Ytgcemgknhkgjoaa
