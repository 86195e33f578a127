/-
  The walk of law14's MipsWith: it answers true.
-/
import Derived.Test.YtgcemgknhkgjoaaWithP
import Derived.Test.YtgcemgknhkgjoaaStep
import Derived.Test.YtgcemgknhkgjoaaAwake
import Derived.Deep.CutRange
set_option linter.unusedVariables false
set_option linter.unusedSimpArgs false
namespace Go.Proofs.Ytgcemgknhkgjoaa
open Go Go.RowKit

theorem shl_nat (x m xa : Nat) (hx : x ≤ 100) (hm : m ≤ 3) (h : x * 2 ^ m = xa) : wrap64 ((x : Int) * 2 ^ m) = (xa : Int) := by
  have e : ((x * 2 ^ m : Nat) : Int) = (x : Int) * 2 ^ m := by simp
  have h2 : (2 : Nat) ^ m ≤ 2 ^ 3 := Nat.pow_le_pow_right (by omega) hm
  have h3 : x * 2 ^ m ≤ 100 * 2 ^ 3 := Nat.mul_le_mul hx h2
  rw [← e, h]
  exact IntWalk.wrap64_in _ (by omega)

set_option maxRecDepth 100000 in
set_option maxHeartbeats 40000000 in
theorem mipsWith_core (d : Int) (wrap : Bool) (A : Option Addr) (n c : Nat) (t0 t1 t2 t3 : Int) (w : World) (D : Nat) (hD : D ≤ 3) (hn : n ≤ 50) (hb : ∀ x ∈ [t0, t1, t2, t3, 3], -9223372036854775808 ≤ x ∧ x ≤ 9223372036854775807)
    (hP : ∀ w', Gr w w' → Calls Try.prog 9 #[.int .i64 d, .bool wrap, .slice A n c] w' (PaintPost w' D (sideN D 0) wrap)) :
    Calls Try.prog 4 #[.int .i64 d, .bool wrap, .slice A n c, .agg #[.int .i64 t0, .int .i64 t1, .int .i64 t2, .int .i64 t3]] w fun e w' => e = .returned (.bool true) ∧ Gr w w' := by
  have HA : Hid _ := fun w' => awake14 w'
  have HP : Hid _ := hP
  have HB0 : Hid _ := hb
  clear hP hb
  have hnI : ¬ 50 < (n : Int) := by omega
  have hnN : ¬ 50 < n := by omega
  have b1 : decide (50 < (n : Int)) = false := by simp; omega
  go_enter Try.func4, Try.ntmps4
  go_wp2_with fail
  refine (HP.out _ ((Gr.refl w).alloc _)).mono ?_
  rintro e w2 ⟨ts, A2, c2, rfl, hts, hA, hG2⟩
  go_wp2_with fail
  have HB : Hid _ := fun w' (h : Gr w2 w') => build_any A2 c2 D ts wrap w' hD hts (hA.gr h)
  rw [hts] at HB
  refine (HB.out _ ((Gr.refl w2).alloc _)).mono ?_
  rintro e w3 ⟨g, rfl, hp, hG3, hge⟩
  have hT3 := hG3.heap (heap_alloc_new w2 (.cells #[.int .i64 D, .bool wrap, .slice A2 (sideN D 0 * sideN D 0) c2] 26))
  have hA3 := (hA.gr ((Gr.refl w2).alloc (.cells #[.int .i64 D, .bool wrap, .slice A2 (sideN D 0 * sideN D 0) c2] 26))).gr hG3
  have hK3 := hG3.heap (((Gr.refl w2).alloc (.cells #[.int .i64 D, .bool wrap, .slice A2 (sideN D 0 * sideN D 0) c2] 26)).heap (hG2.heap (heap_alloc_new w (.cells #[.int .i64 t0, .int .i64 t1, .int .i64 t2, .int .i64 t3] 38))))
  have hG03 : Gr w w3 := ((((Gr.refl w).alloc _).trans hG2).alloc _).trans hG3
  have c0 := row_cell (v := .int .i64 D) hT3 0 rfl
  have k0 := row_cell (v := .int .i64 t0) hK3 0 rfl
  have k1 := row_cell (v := .int .i64 t1) hK3 1 rfl
  have k2 := row_cell (v := .int .i64 t2) hK3 2 rfl
  have k3 := row_cell (v := .int .i64 t3) hK3 3 rfl
  clear hG2 hG3 hge hA HP HB hK3
  generalize w2.heap.size = gt at *
  generalize w.heap.size = gk at *
  have Hp : Hid _ := hp
  have HA3 : Hid _ := hA3
  clear hp hA3
  have HST : Hid _ := fun (w' : World) (A : Option Addr) (c : Nat) (h : Ints w' A [t0, t1, t2, t3, 3]) => step_any A c D [t0, t1, t2, t3, 3] w' hD h HB0.out (by simp)
  go_wp2_with fail
  have hI : Ints (w3.alloc (.cells #[.int .i64 t0, .int .i64 t1, .int .i64 t2, .int .i64 t3, .int .i64 3] 3)) (some ⟨w3.heap.size, 0, none⟩) [t0, t1, t2, t3, 3] := Sl.new w3 _ 1 _ 5 rfl
  refine (HST.out _ _ 5 hI).mono ?_
  rintro e w4 ⟨X, Y, W, H, A3, c3, ls, rfl, hW1, hH1, hW4, hH4, hXW, hYH, hls, hlc, hcs, hG4⟩
  have hG34 := ((Gr.refl w3).alloc (.cells #[.int .i64 t0, .int .i64 t1, .int .i64 t2, .int .i64 t3, .int .i64 3] 3)).trans hG4
  clear k0 k1 k2 k3 hI hG4
  obtain ⟨b3, o3, rfl, _, _⟩ := Cols.at_ hcs (k := 0) (by rw [hls]; exact Nat.mul_pos (by omega) (by omega))
  rw [hls] at hlc ⊢
  have Hls : Hid _ := hls
  have Hcs : Hid _ := hcs
  clear hls hcs
  go_wp2_with (first
    | (refine wpList_store_abs rfl rfl w4.heap.size 0 43 _ (stepCells X Y W H (.slice (some ⟨b3, o3, none⟩) (W * H) c3)) rfl rfl size_step (heap_alloc_new w4 (.cells #[.int .i64 0, .int .i64 0, .int .i64 0, .int .i64 0, .int .i64 0, .int .i64 0, .int .i64 0, .int .i64 0, .int .i64 0, .int .i64 0, .int .i64 0, .int .i64 0, .int .i64 0, .int .i64 0, .int .i64 0, .int .i64 0, .int .i64 0, .slice none 0 0, .int .i64 0, .int .i64 0, .int .i64 0, .int .i64 0, .slice none 0 0, .int .i64 0, .int .i64 0] 43)) (by simp [stepCells]) (by simp [stepCells, Value.oneCell']) ?_; intro w5 hw5
       have hS5 : w5.heap[w4.heap.size]? = some (.cells (stepCells X Y W H (.slice (some ⟨b3, o3, none⟩) (W * H) c3)).toArray 43 (0, 0)) := step_res (heap_alloc_new w4 _) hw5.out
       have sX := row_cell (v := .int .i64 (X : Int)) hS5 18 rfl
       have sY := row_cell (v := .int .i64 (Y : Int)) hS5 19 rfl
       have sW := row_cell (v := .int .i64 (W : Int)) hS5 20 rfl
       have sH := row_cell (v := .int .i64 (H : Int)) hS5 21 rfl
       have sT := row_cell (v := .slice (some ⟨b3, o3, none⟩) (W * H) c3) hS5 22 rfl
       have c05 := ((hG34.trans (hw5.out ▸ ((Gr.refl w4).alloc (.cells zeroCells.toArray 43)).setRow (Nat.le_refl _) _ : Gr w4 w5))).cell c0))
  have hG45 : Gr w4 w5 := hw5.out ▸ ((Gr.refl w4).alloc (.cells zeroCells.toArray 43)).setRow (Nat.le_refl _) _
  have hG35 := hG34.trans hG45
  have hG05 := hG03.trans hG35
  have Hcs5 : Hid (Cols w5 (some ⟨b3, o3, none⟩) ls) := Hcs.out.gr hG45
  have hT5 := hG35.heap hT3
  have Hp5 : Hid _ := Hp.out.gr hG35
  have Hc5 : Hid (Cols w5 A2 ts) := HA3.out.gr hG35
  have Hw5 : Hid _ := hw5
  clear hw5 hG34 hG45 hG35 hS5 Hcs hT3 Hp HA3 hG03 c0 HST
  obtain ⟨gs, hgs⟩ : ∃ gs, w4.heap.size = gs := ⟨_, rfl⟩
  rw [hgs] at sX sY sW sH sT ⊢
  clear hgs
  have hNb := sideN_bd D 0 hD
  have HWI := with_any g (pyrOf D wrap ts) ts X Y W H c3 (some ⟨b3, o3, none⟩) ls w5 Hp5.out (by simp [pyrOf, lvl]) Hcs5.out Hls.out (by rw [Hls.out]; exact hlc) hW1 hH1 hXW hYH
  rw [Hls.out] at HWI
  refine HWI.mono ?_
  clear HWI
  rintro e w6 ⟨g2, rfl, hp2, hG6, hge6⟩
  have hT6 := hG6.heap hT5
  have d6 := hG6.cell c05
  have x6 := hG6.cell sX
  have y6 := hG6.cell sY
  have w6' := hG6.cell sW
  have h6 := hG6.cell sH
  have t6 := hG6.cell sT
  have Hcs6 : Hid (Cols w6 (some ⟨b3, o3, none⟩) ls) := Hcs5.out.gr hG6
  have Hp6 : Hid _ := Hp5.out.gr hG6
  have Hc6 : Hid (Cols w6 A2 ts) := Hc5.out.gr hG6
  have Hp2 : Hid _ := hp2
  have hG06 := hG05.trans hG6
  clear hp2 hG6 hge6 hT5 c05 sX sY sW sH sT Hcs5 Hp5 Hc5 Hw5 hG05
  have HMEM : Hid (w6.heap[gt]? = some (.cells #[.int .i64 D, .bool wrap, .slice A2 (sideN D 0 * sideN D 0) c2] 26 (0, 0)) ∧ w6.cell? ⟨gs, 18, none⟩ = some (.int .i64 (X : Int)) ∧ w6.cell? ⟨gs, 19, none⟩ = some (.int .i64 (Y : Int)) ∧ w6.cell? ⟨gs, 20, none⟩ = some (.int .i64 (W : Int)) ∧ w6.cell? ⟨gs, 21, none⟩ = some (.int .i64 (H : Int)) ∧ w6.cell? ⟨gs, 22, none⟩ = some (.slice (some ⟨b3, o3, none⟩) (W * H) c3) ∧ w6.cell? ⟨gt, 0, none⟩ = some (.int .i64 (D : Int))) := ⟨hT6, x6, y6, w6', h6, t6, d6⟩
  clear hT6 x6 y6 w6' h6 t6 d6
  go_wp2_with fail
  go_loopw [15] (fun vn wr => ∃ m : Nat, vn = .int .i64 (m : Int) ∧ m ≤ D + 1 ∧ Gr w6 wr) (fun vn _ => D + 1 - (intOf vn).toNat)
  case atStart => exact ⟨0, rfl, by omega, Gr.refl _⟩
  case round =>
    obtain ⟨m, rfl, hmD, hGm⟩ := ‹∃ m : Nat, _›
    have cD := hGm.cell HMEM.out.2.2.2.2.2.2
    by_cases hm : m ≤ D
    · have hmI : (m : Int) ≤ (D : Int) := by omega
      go_wp2_with fail
      obtain ⟨S, hS⟩ : ∃ S, sideN D m = S := ⟨_, rfl⟩
      have hSb := sideN_bd D m hD
      rw [hS] at hSb
      have HS : Hid (∀ w', Gr w6 w' → Calls Try.prog 12 #[.pointer (some ⟨g, 0, none⟩), .int .i64 (m : Int)] w' fun e w'' => e = .returned (.int .i64 (S : Int)) ∧ w' = w'') := fun w' hG => by
        have := size_any g _ (m : Int) w' (Hp6.out.gr hG)
        have e : (pyrOf D wrap ts).size (m : Int) = (S : Int) := by simp [Pyr.size, pyrOf, hm, hS]
        rwa [e] at this
      have HSS : Hid _ := hS
      clear hS cD
      go_loopw [16] (fun vy wr => ∃ y : Nat, vy = .int .i64 (y : Int) ∧ y ≤ S ∧ Gr w6 wr) (fun vy _ => S - (intOf vy).toNat)
      case atStart => exact ⟨0, rfl, by omega, hGm⟩
      case round =>
        clear hGm
        obtain ⟨y, rfl, hyS, hGy⟩ := ‹∃ y : Nat, _›
        by_cases hy : y < S
        · have hyI : (y : Int) < (S : Int) := by omega
          have hy32 : (y : Int) < 32 := by omega
          go_wp2_with (go_at_call 12; refine (HS.out _ hGy).mono ?_; rintro e w' ⟨rfl, rfl⟩)
          go_loopw [17] (fun vx wr => ∃ x : Nat, vx = .int .i64 (x : Int) ∧ x ≤ S ∧ Gr w6 wr) (fun vx _ => S - (intOf vx).toNat)
          case atStart => exact ⟨0, rfl, by omega, hGy⟩
          case round =>
            clear hGy
            obtain ⟨x, rfl, hxS, hGx⟩ := ‹∃ x : Nat, _›
            by_cases hx : x < S
            · have hxI : (x : Int) < (S : Int) := by omega
              have hx32 : (x : Int) < 32 := by omega
              go_wp2_with (go_at_call 12; refine (HS.out _ hGx).mono ?_; rintro e w' ⟨rfl, rfl⟩)
              obtain ⟨xa, hxa⟩ : ∃ xa : Nat, x * 2 ^ m = xa := ⟨_, rfl⟩
              obtain ⟨xb, hxb⟩ : ∃ xb : Nat, (x + 1) * 2 ^ m = xb := ⟨_, rfl⟩
              obtain ⟨ya, hya⟩ : ∃ ya : Nat, y * 2 ^ m = ya := ⟨_, rfl⟩
              obtain ⟨yb, hyb⟩ : ∃ yb : Nat, (y + 1) * 2 ^ m = yb := ⟨_, rfl⟩
              have HCV : Hid (Covers X Y W H m x y ↔ (xa < X + W ∧ X < xb ∧ ya < Y + H ∧ Y < yb)) := by
                show _ ↔ _
                unfold Covers
                rw [hxa, hxb, hya, hyb]
              have sxa := shl_nat x m xa (by omega) (by omega) hxa
              have sxb : wrap64 (((x : Int) + 1) * 2 ^ m) = (xb : Int) := shl_nat (x + 1) m xb (by omega) (by omega) hxb
              have sya := shl_nat y m ya (by omega) (by omega) hya
              have syb : wrap64 (((y : Int) + 1) * 2 ^ m) = (yb : Int) := shl_nat (y + 1) m yb (by omega) (by omega) hyb
              clear hxa hxb hya hyb
              have hXW2 : X + W ≤ 32 := by omega
              have hYH2 : Y + H ≤ 32 := by omega
              obtain ⟨inn, hinn⟩ : ∃ inn : Bool, inn = decide (xa < X + W ∧ X < xb ∧ ya < Y + H ∧ Y < yb) := ⟨_, rfl⟩
              have Hinn : Hid _ := hinn
              clear hinn
              go_cut [18] from 88 to 181 (fun v wx => v = .bool inn ∧ Gr w6 wx)
              case first =>
                by_cases q0 : xa < X + W
                · have qd0 : decide ((xa : Int) < (X : Int) + (W : Int)) = true := by simp; omega
                  by_cases q1 : X < xb
                  · have qd1 : decide ((X : Int) < (xb : Int)) = true := by simp; omega
                    by_cases q2 : ya < Y + H
                    · have qd2 : decide ((ya : Int) < (Y : Int) + (H : Int)) = true := by simp; omega
                      by_cases q3 : Y < yb
                      · have qd3 : decide ((Y : Int) < (yb : Int)) = true := by simp; omega
                        have hin : inn = true := by rw [Hinn.out]; simp; omega
                        subst hin
                        clear Hinn
                        as_aux_lemma =>
                          refine wp_region_lex [(0, .p), (1, .p), (2, .p), (3, .p), (4, .t), (5, .p), (6, .t), (7, .p), (8, .p), (9, .p), (10, .p), (11, .p), (12, .p), (13, .p), (14, .p), (15, .t), (16, .p), (17, .p), (18, .p), (19, .p), (20, .p), (21, .p), (22, .p), (23, .t), (24, .p), (25, .t), (26, .p), (27, .p), (28, .p), (29, .p), (30, .p), (31, .p), (32, .p), (33, .p), (34, .p), (35, .t), (36, .p), (37, .p), (38, .p)] [] (by kernel_rfl) (by kernel_rfl) ?_
                          iterate 4 (refine lexG_p rfl (fun K hK => ?_); go_simp; (try go_bits); refine hK _ ?_; clear hK K)
                          refine lexG_load1 rfl rfl rfl rfl rfl agg_int (hGx.cell HMEM.out.2.1) ?_
                          simp only [Act.put, List.setIfInBounds_toArray, List.set_cons_zero, List.set_cons_succ]
                          iterate 1 (refine lexG_p rfl (fun K hK => ?_); go_simp; (try go_bits); refine hK _ ?_; clear hK K)
                          refine lexG_load1 rfl rfl rfl rfl rfl agg_int (hGx.cell HMEM.out.2.2.2.1) ?_
                          simp only [Act.put, List.setIfInBounds_toArray, List.set_cons_zero, List.set_cons_succ]
                          iterate 8 (refine lexG_p rfl (fun K hK => ?_); go_simp; (try go_bits); refine hK _ ?_; clear hK K)
                          refine lexG_load1 rfl rfl rfl rfl rfl agg_int (hGx.cell HMEM.out.2.1) ?_
                          simp only [Act.put, List.setIfInBounds_toArray, List.set_cons_zero, List.set_cons_succ]
                          iterate 7 (refine lexG_p rfl (fun K hK => ?_); go_simp; (try go_bits); refine hK _ ?_; clear hK K)
                          refine lexG_load1 rfl rfl rfl rfl rfl agg_int (hGx.cell HMEM.out.2.2.1) ?_
                          simp only [Act.put, List.setIfInBounds_toArray, List.set_cons_zero, List.set_cons_succ]
                          iterate 1 (refine lexG_p rfl (fun K hK => ?_); go_simp; (try go_bits); refine hK _ ?_; clear hK K)
                          refine lexG_load1 rfl rfl rfl rfl rfl agg_int (hGx.cell HMEM.out.2.2.2.2.1) ?_
                          simp only [Act.put, List.setIfInBounds_toArray, List.set_cons_zero, List.set_cons_succ]
                          iterate 9 (refine lexG_p rfl (fun K hK => ?_); go_simp; (try go_bits); refine hK _ ?_; clear hK K)
                          refine lexG_load1 rfl rfl rfl rfl rfl agg_int (hGx.cell HMEM.out.2.2.1) ?_
                          simp only [Act.put, List.setIfInBounds_toArray, List.set_cons_zero, List.set_cons_succ]
                          iterate 3 (refine lexG_p rfl (fun K hK => ?_); go_simp; (try go_bits); refine hK _ ?_; clear hK K)
                          refine lexG_nil fun w7 hG7 => ?_
                          go_wp2_with fail
                          go_meet
                          exact ⟨rfl, hGx.trans hG7⟩
                      · have qd3 : decide ((Y : Int) < (yb : Int)) = false := by simp; omega
                        have hin : inn = false := by rw [Hinn.out]; simp; omega
                        subst hin
                        clear Hinn
                        as_aux_lemma =>
                          refine wp_region_lex [(0, .p), (1, .p), (2, .p), (3, .p), (4, .t), (5, .p), (6, .t), (7, .p), (8, .p), (9, .p), (10, .p), (11, .p), (12, .p), (13, .p), (14, .p), (15, .t), (16, .p), (17, .p), (18, .p), (19, .p), (20, .p), (21, .p), (22, .p), (23, .t), (24, .p), (25, .t), (26, .p), (27, .p), (28, .p), (29, .p), (30, .p), (31, .p), (32, .p), (33, .p), (34, .p), (35, .t), (36, .p), (37, .p), (38, .p)] [] (by kernel_rfl) (by kernel_rfl) ?_
                          iterate 4 (refine lexG_p rfl (fun K hK => ?_); go_simp; (try go_bits); refine hK _ ?_; clear hK K)
                          refine lexG_load1 rfl rfl rfl rfl rfl agg_int (hGx.cell HMEM.out.2.1) ?_
                          simp only [Act.put, List.setIfInBounds_toArray, List.set_cons_zero, List.set_cons_succ]
                          iterate 1 (refine lexG_p rfl (fun K hK => ?_); go_simp; (try go_bits); refine hK _ ?_; clear hK K)
                          refine lexG_load1 rfl rfl rfl rfl rfl agg_int (hGx.cell HMEM.out.2.2.2.1) ?_
                          simp only [Act.put, List.setIfInBounds_toArray, List.set_cons_zero, List.set_cons_succ]
                          iterate 8 (refine lexG_p rfl (fun K hK => ?_); go_simp; (try go_bits); refine hK _ ?_; clear hK K)
                          refine lexG_load1 rfl rfl rfl rfl rfl agg_int (hGx.cell HMEM.out.2.1) ?_
                          simp only [Act.put, List.setIfInBounds_toArray, List.set_cons_zero, List.set_cons_succ]
                          iterate 7 (refine lexG_p rfl (fun K hK => ?_); go_simp; (try go_bits); refine hK _ ?_; clear hK K)
                          refine lexG_load1 rfl rfl rfl rfl rfl agg_int (hGx.cell HMEM.out.2.2.1) ?_
                          simp only [Act.put, List.setIfInBounds_toArray, List.set_cons_zero, List.set_cons_succ]
                          iterate 1 (refine lexG_p rfl (fun K hK => ?_); go_simp; (try go_bits); refine hK _ ?_; clear hK K)
                          refine lexG_load1 rfl rfl rfl rfl rfl agg_int (hGx.cell HMEM.out.2.2.2.2.1) ?_
                          simp only [Act.put, List.setIfInBounds_toArray, List.set_cons_zero, List.set_cons_succ]
                          iterate 9 (refine lexG_p rfl (fun K hK => ?_); go_simp; (try go_bits); refine hK _ ?_; clear hK K)
                          refine lexG_load1 rfl rfl rfl rfl rfl agg_int (hGx.cell HMEM.out.2.2.1) ?_
                          simp only [Act.put, List.setIfInBounds_toArray, List.set_cons_zero, List.set_cons_succ]
                          iterate 3 (refine lexG_p rfl (fun K hK => ?_); go_simp; (try go_bits); refine hK _ ?_; clear hK K)
                          refine lexG_nil fun w7 hG7 => ?_
                          go_wp2_with fail
                          go_meet
                          exact ⟨rfl, hGx.trans hG7⟩
                    · have qd2 : decide ((ya : Int) < (Y : Int) + (H : Int)) = false := by simp; omega
                      have hin : inn = false := by rw [Hinn.out]; simp; omega
                      subst hin
                      clear Hinn
                      as_aux_lemma =>
                        refine wp_region_lex [(0, .p), (1, .p), (2, .p), (3, .p), (4, .t), (5, .p), (6, .t), (7, .p), (8, .p), (9, .p), (10, .p), (11, .p), (12, .p), (13, .p), (14, .p), (15, .t), (16, .p), (17, .p), (18, .p), (19, .p), (20, .p), (21, .p), (22, .p), (23, .t), (24, .p), (25, .t), (26, .p), (27, .p), (28, .p), (29, .p), (30, .p), (31, .p), (32, .p), (33, .p), (34, .p), (35, .t), (36, .p), (37, .p), (38, .p)] [] (by kernel_rfl) (by kernel_rfl) ?_
                        iterate 4 (refine lexG_p rfl (fun K hK => ?_); go_simp; (try go_bits); refine hK _ ?_; clear hK K)
                        refine lexG_load1 rfl rfl rfl rfl rfl agg_int (hGx.cell HMEM.out.2.1) ?_
                        simp only [Act.put, List.setIfInBounds_toArray, List.set_cons_zero, List.set_cons_succ]
                        iterate 1 (refine lexG_p rfl (fun K hK => ?_); go_simp; (try go_bits); refine hK _ ?_; clear hK K)
                        refine lexG_load1 rfl rfl rfl rfl rfl agg_int (hGx.cell HMEM.out.2.2.2.1) ?_
                        simp only [Act.put, List.setIfInBounds_toArray, List.set_cons_zero, List.set_cons_succ]
                        iterate 8 (refine lexG_p rfl (fun K hK => ?_); go_simp; (try go_bits); refine hK _ ?_; clear hK K)
                        refine lexG_load1 rfl rfl rfl rfl rfl agg_int (hGx.cell HMEM.out.2.1) ?_
                        simp only [Act.put, List.setIfInBounds_toArray, List.set_cons_zero, List.set_cons_succ]
                        iterate 7 (refine lexG_p rfl (fun K hK => ?_); go_simp; (try go_bits); refine hK _ ?_; clear hK K)
                        refine lexG_load1 rfl rfl rfl rfl rfl agg_int (hGx.cell HMEM.out.2.2.1) ?_
                        simp only [Act.put, List.setIfInBounds_toArray, List.set_cons_zero, List.set_cons_succ]
                        iterate 1 (refine lexG_p rfl (fun K hK => ?_); go_simp; (try go_bits); refine hK _ ?_; clear hK K)
                        refine lexG_load1 rfl rfl rfl rfl rfl agg_int (hGx.cell HMEM.out.2.2.2.2.1) ?_
                        simp only [Act.put, List.setIfInBounds_toArray, List.set_cons_zero, List.set_cons_succ]
                        iterate 9 (refine lexG_p rfl (fun K hK => ?_); go_simp; (try go_bits); refine hK _ ?_; clear hK K)
                        refine lexG_skip rfl rfl ?_
                        simp only [Act.put, List.setIfInBounds_toArray, List.set_cons_zero, List.set_cons_succ]
                        iterate 3 (refine lexG_p rfl (fun K hK => ?_); go_simp; (try go_bits); refine hK _ ?_; clear hK K)
                        refine lexG_nil fun w7 hG7 => ?_
                        go_wp2_with fail
                        go_meet
                        exact ⟨rfl, hGx.trans hG7⟩
                  · have qd1 : decide ((X : Int) < (xb : Int)) = false := by simp; omega
                    have hin : inn = false := by rw [Hinn.out]; simp; omega
                    subst hin
                    clear Hinn
                    as_aux_lemma =>
                      refine wp_region_lex [(0, .p), (1, .p), (2, .p), (3, .p), (4, .t), (5, .p), (6, .t), (7, .p), (8, .p), (9, .p), (10, .p), (11, .p), (12, .p), (13, .p), (14, .p), (15, .t), (16, .p), (17, .p), (18, .p), (19, .p), (20, .p), (21, .p), (22, .p), (23, .t), (24, .p), (25, .t), (26, .p), (27, .p), (28, .p), (29, .p), (30, .p), (31, .p), (32, .p), (33, .p), (34, .p), (35, .t), (36, .p), (37, .p), (38, .p)] [] (by kernel_rfl) (by kernel_rfl) ?_
                      iterate 4 (refine lexG_p rfl (fun K hK => ?_); go_simp; (try go_bits); refine hK _ ?_; clear hK K)
                      refine lexG_load1 rfl rfl rfl rfl rfl agg_int (hGx.cell HMEM.out.2.1) ?_
                      simp only [Act.put, List.setIfInBounds_toArray, List.set_cons_zero, List.set_cons_succ]
                      iterate 1 (refine lexG_p rfl (fun K hK => ?_); go_simp; (try go_bits); refine hK _ ?_; clear hK K)
                      refine lexG_load1 rfl rfl rfl rfl rfl agg_int (hGx.cell HMEM.out.2.2.2.1) ?_
                      simp only [Act.put, List.setIfInBounds_toArray, List.set_cons_zero, List.set_cons_succ]
                      iterate 8 (refine lexG_p rfl (fun K hK => ?_); go_simp; (try go_bits); refine hK _ ?_; clear hK K)
                      refine lexG_load1 rfl rfl rfl rfl rfl agg_int (hGx.cell HMEM.out.2.1) ?_
                      simp only [Act.put, List.setIfInBounds_toArray, List.set_cons_zero, List.set_cons_succ]
                      iterate 7 (refine lexG_p rfl (fun K hK => ?_); go_simp; (try go_bits); refine hK _ ?_; clear hK K)
                      refine lexG_skip rfl rfl ?_
                      simp only [Act.put, List.setIfInBounds_toArray, List.set_cons_zero, List.set_cons_succ]
                      iterate 1 (refine lexG_p rfl (fun K hK => ?_); go_simp; (try go_bits); refine hK _ ?_; clear hK K)
                      refine lexG_skip rfl rfl ?_
                      simp only [Act.put, List.setIfInBounds_toArray, List.set_cons_zero, List.set_cons_succ]
                      iterate 9 (refine lexG_p rfl (fun K hK => ?_); go_simp; (try go_bits); refine hK _ ?_; clear hK K)
                      refine lexG_skip rfl rfl ?_
                      simp only [Act.put, List.setIfInBounds_toArray, List.set_cons_zero, List.set_cons_succ]
                      iterate 3 (refine lexG_p rfl (fun K hK => ?_); go_simp; (try go_bits); refine hK _ ?_; clear hK K)
                      refine lexG_nil fun w7 hG7 => ?_
                      go_wp2_with fail
                      go_meet
                      exact ⟨rfl, hGx.trans hG7⟩
                · have qd0 : decide ((xa : Int) < (X : Int) + (W : Int)) = false := by simp; omega
                  have hin : inn = false := by rw [Hinn.out]; simp; omega
                  subst hin
                  clear Hinn
                  as_aux_lemma =>
                    refine wp_region_lex [(0, .p), (1, .p), (2, .p), (3, .p), (4, .t), (5, .p), (6, .t), (7, .p), (8, .p), (9, .p), (10, .p), (11, .p), (12, .p), (13, .p), (14, .p), (15, .t), (16, .p), (17, .p), (18, .p), (19, .p), (20, .p), (21, .p), (22, .p), (23, .t), (24, .p), (25, .t), (26, .p), (27, .p), (28, .p), (29, .p), (30, .p), (31, .p), (32, .p), (33, .p), (34, .p), (35, .t), (36, .p), (37, .p), (38, .p)] [] (by kernel_rfl) (by kernel_rfl) ?_
                    iterate 4 (refine lexG_p rfl (fun K hK => ?_); go_simp; (try go_bits); refine hK _ ?_; clear hK K)
                    refine lexG_load1 rfl rfl rfl rfl rfl agg_int (hGx.cell HMEM.out.2.1) ?_
                    simp only [Act.put, List.setIfInBounds_toArray, List.set_cons_zero, List.set_cons_succ]
                    iterate 1 (refine lexG_p rfl (fun K hK => ?_); go_simp; (try go_bits); refine hK _ ?_; clear hK K)
                    refine lexG_load1 rfl rfl rfl rfl rfl agg_int (hGx.cell HMEM.out.2.2.2.1) ?_
                    simp only [Act.put, List.setIfInBounds_toArray, List.set_cons_zero, List.set_cons_succ]
                    iterate 8 (refine lexG_p rfl (fun K hK => ?_); go_simp; (try go_bits); refine hK _ ?_; clear hK K)
                    refine lexG_skip rfl rfl ?_
                    simp only [Act.put, List.setIfInBounds_toArray, List.set_cons_zero, List.set_cons_succ]
                    iterate 7 (refine lexG_p rfl (fun K hK => ?_); go_simp; (try go_bits); refine hK _ ?_; clear hK K)
                    refine lexG_skip rfl rfl ?_
                    simp only [Act.put, List.setIfInBounds_toArray, List.set_cons_zero, List.set_cons_succ]
                    iterate 1 (refine lexG_p rfl (fun K hK => ?_); go_simp; (try go_bits); refine hK _ ?_; clear hK K)
                    refine lexG_skip rfl rfl ?_
                    simp only [Act.put, List.setIfInBounds_toArray, List.set_cons_zero, List.set_cons_succ]
                    iterate 9 (refine lexG_p rfl (fun K hK => ?_); go_simp; (try go_bits); refine hK _ ?_; clear hK K)
                    refine lexG_skip rfl rfl ?_
                    simp only [Act.put, List.setIfInBounds_toArray, List.set_cons_zero, List.set_cons_succ]
                    iterate 3 (refine lexG_p rfl (fun K hK => ?_); go_simp; (try go_bits); refine hK _ ?_; clear hK K)
                    refine lexG_nil fun w7 hG7 => ?_
                    go_wp2_with fail
                    go_meet
                    exact ⟨rfl, hGx.trans hG7⟩
              case rest =>
                obtain ⟨rfl, hGc⟩ := hcut
                clear sxa sxb sya syb hXW2 hYH2
                have hxS := hx
                rw [← HSS.out] at hxS
                have hyS' := hy
                rw [← HSS.out] at hyS'
                cases inn
                · have hnc : ¬ Covers X Y W H m x y := fun h => by have h1 := HCV.out.1 h; have h2 := Hinn.out; rw [decide_eq_true h1] at h2; cases h2
                  have hout := with_out D wrap ts ls X Y W H hts hXW hYH Hls.out m hm x y hxS hyS' hnc
                  obtain ⟨cc, hcc⟩ : ∃ cc, (pyrOf D wrap ts).at (m : Int) (x : Int) (y : Int) = cc := ⟨_, rfl⟩
                  have HT1 : Hid (∀ w', Gr w6 w' → Calls Try.prog 13 #[.pointer (some ⟨g, 0, none⟩), .int .i64 (m : Int), .int .i64 (x : Int), .int .i64 (y : Int)] w' fun e w'' => e = .returned cc.val ∧ Gr w' w'') := fun w' hG => by
                    have := at_pyr g _ (m : Int) (x : Int) (y : Int) w' (Hp6.out.gr hG) (by omega) (by omega) (by omega) (by omega)
                    rwa [hcc] at this
                  have HT2 : Hid (∀ w', Gr w6 w' → Calls Try.prog 13 #[.pointer (some ⟨g2, 0, none⟩), .int .i64 (m : Int), .int .i64 (x : Int), .int .i64 (y : Int)] w' fun e w'' => e = .returned cc.val ∧ Gr w' w'') := fun w' hG => by
                    have := at_pyr g2 _ (m : Int) (x : Int) (y : Int) w' (Hp2.out.gr hG) (by omega) (by omega) (by omega) (by omega)
                    have e : (pyrOf (pyrOf D wrap ts).d (pyrOf D wrap ts).wrap (withRows ts (sideN (pyrOf D wrap ts).d 0) X Y W ls H)).at (m : Int) (x : Int) (y : Int) = cc := hout.trans hcc
                    rwa [e] at this
                  clear hout hcc hnc hxS hyS'
                  have qn : ∀ w', (binOp .neq 35 cc.val cc.val).run Try.prog w' = .ok (.bool false) w' := fun w' => by rw [col_neq, decide_eq_true rfl]; rfl
                  by_cases hm0 : m = 0
                  · have e0 : ((m : Int) == 0) = true := by simp; omega
                    have Hm0 : Hid _ := hm0
                    clear hm0
                    as_aux_lemma =>
                      go_wp2_with fail
                      refine wp_region_lex [(0, .p), (1, .p), (2, .p), (3, .p), (4, .p), (5, .p), (6, .p), (7, .t), (8, .p), (9, .p), (10, .p), (11, .p), (12, .t), (13, .p), (14, .p), (15, .p), (16, .p), (17, .p), (18, .p), (19, .p), (20, .p), (21, .p), (22, .p), (23, .p), (24, .p), (25, .t), (26, .p), (27, .t), (28, .p), (29, .p), (30, .t), (31, .p), (32, .p), (33, .t), (34, .p), (35, .p), (36, .p), (37, .p), (38, .t), (39, .p), (40, .p), (41, .t), (42, .p), (43, .p), (44, .p)] [] (by kernel_rfl) (by kernel_rfl) ?_
                      iterate 7 (refine lexG_p rfl (fun K hK => ?_); go_simp; (try go_bits); refine hK _ ?_; clear hK K)
                      refine lexG_tx rfl rfl rfl ?_; apply Exists.intro; refine ⟨fun w' hG => ?_, ?_⟩
                      · go_simp
                        exact HT2.out w' (hGc.trans hG)
                      simp only [Act.put, List.setIfInBounds_toArray, List.set_cons_zero, List.set_cons_succ]
                      iterate 4 (refine lexG_p rfl (fun K hK => ?_); go_simp; (try go_bits); refine hK _ ?_; clear hK K)
                      refine lexG_tx rfl rfl rfl ?_; apply Exists.intro; refine ⟨fun w' hG => ?_, ?_⟩
                      · go_simp
                        exact HT1.out w' (hGc.trans hG)
                      simp only [Act.put, List.setIfInBounds_toArray, List.set_cons_zero, List.set_cons_succ]
                      iterate 12 (refine lexG_p rfl (fun K hK => ?_); go_simp; (try go_bits); refine hK _ ?_; clear hK K)
                      refine lexG_skip rfl rfl ?_
                      simp only [Act.put, List.setIfInBounds_toArray, List.set_cons_zero, List.set_cons_succ]
                      iterate 1 (refine lexG_p rfl (fun K hK => ?_); go_simp; (try go_bits); refine hK _ ?_; clear hK K)
                      refine lexG_skip rfl rfl ?_
                      simp only [Act.put, List.setIfInBounds_toArray, List.set_cons_zero, List.set_cons_succ]
                      iterate 2 (refine lexG_p rfl (fun K hK => ?_); go_simp; (try go_bits); refine hK _ ?_; clear hK K)
                      refine lexG_skip rfl rfl ?_
                      simp only [Act.put, List.setIfInBounds_toArray, List.set_cons_zero, List.set_cons_succ]
                      iterate 2 (refine lexG_p rfl (fun K hK => ?_); go_simp; (try go_bits); refine hK _ ?_; clear hK K)
                      refine lexG_skip rfl rfl ?_
                      simp only [Act.put, List.setIfInBounds_toArray, List.set_cons_zero, List.set_cons_succ]
                      iterate 4 (refine lexG_p rfl (fun K hK => ?_); go_simp; (try go_bits); refine hK _ ?_; clear hK K)
                      refine lexG_skip rfl rfl ?_
                      simp only [Act.put, List.setIfInBounds_toArray, List.set_cons_zero, List.set_cons_succ]
                      iterate 2 (refine lexG_p rfl (fun K hK => ?_); go_simp; (try go_bits); refine hK _ ?_; clear hK K)
                      refine lexG_skip rfl rfl ?_
                      simp only [Act.put, List.setIfInBounds_toArray, List.set_cons_zero, List.set_cons_succ]
                      iterate 3 (refine lexG_p rfl (fun K hK => ?_); go_simp; (try go_bits); refine hK _ ?_; clear hK K)
                      refine lexG_nil fun w8 hG8 => ?_
                      go_wp2_with fail
                      go_roundw
                      case rel => first | exact ⟨x + 1, rfl, by omega, hGc.trans hG8⟩ | ((repeat apply Exists.intro); exact ⟨⟨x + 1, rfl, by omega, hGc.trans hG8⟩, rfl⟩)
                      case measure => simp [intOf]; omega
                  · have e0 : ((m : Int) == 0) = false := by simp; omega
                    as_aux_lemma =>
                      go_wp2_with fail
                      refine wp_region_lex [(0, .p), (1, .p), (2, .p), (3, .p), (4, .p), (5, .p), (6, .p), (7, .t), (8, .p), (9, .p), (10, .p), (11, .p), (12, .t), (13, .p), (14, .p), (15, .p), (16, .p), (17, .p), (18, .p), (19, .p), (20, .p), (21, .p), (22, .p), (23, .p), (24, .p), (25, .t), (26, .p), (27, .t), (28, .p), (29, .p), (30, .t), (31, .p), (32, .p), (33, .t), (34, .p), (35, .p), (36, .p), (37, .p), (38, .t), (39, .p), (40, .p), (41, .t), (42, .p), (43, .p), (44, .p)] [] (by kernel_rfl) (by kernel_rfl) ?_
                      iterate 7 (refine lexG_p rfl (fun K hK => ?_); go_simp; (try go_bits); refine hK _ ?_; clear hK K)
                      refine lexG_tx rfl rfl rfl ?_; apply Exists.intro; refine ⟨fun w' hG => ?_, ?_⟩
                      · go_simp
                        exact HT2.out w' (hGc.trans hG)
                      simp only [Act.put, List.setIfInBounds_toArray, List.set_cons_zero, List.set_cons_succ]
                      iterate 4 (refine lexG_p rfl (fun K hK => ?_); go_simp; (try go_bits); refine hK _ ?_; clear hK K)
                      refine lexG_tx rfl rfl rfl ?_; apply Exists.intro; refine ⟨fun w' hG => ?_, ?_⟩
                      · go_simp
                        exact HT1.out w' (hGc.trans hG)
                      simp only [Act.put, List.setIfInBounds_toArray, List.set_cons_zero, List.set_cons_succ]
                      iterate 12 (refine lexG_p rfl (fun K hK => ?_); go_simp; (try go_bits); refine hK _ ?_; clear hK K)
                      refine lexG_skip rfl rfl ?_
                      simp only [Act.put, List.setIfInBounds_toArray, List.set_cons_zero, List.set_cons_succ]
                      iterate 1 (refine lexG_p rfl (fun K hK => ?_); go_simp; (try go_bits); refine hK _ ?_; clear hK K)
                      refine lexG_skip rfl rfl ?_
                      simp only [Act.put, List.setIfInBounds_toArray, List.set_cons_zero, List.set_cons_succ]
                      iterate 2 (refine lexG_p rfl (fun K hK => ?_); go_simp; (try go_bits); refine hK _ ?_; clear hK K)
                      refine lexG_skip rfl rfl ?_
                      simp only [Act.put, List.setIfInBounds_toArray, List.set_cons_zero, List.set_cons_succ]
                      iterate 2 (refine lexG_p rfl (fun K hK => ?_); go_simp; (try go_bits); refine hK _ ?_; clear hK K)
                      refine lexG_skip rfl rfl ?_
                      simp only [Act.put, List.setIfInBounds_toArray, List.set_cons_zero, List.set_cons_succ]
                      iterate 4 (refine lexG_p rfl (fun K hK => ?_); go_simp; (try go_bits); refine hK _ ?_; clear hK K)
                      refine lexG_skip rfl rfl ?_
                      simp only [Act.put, List.setIfInBounds_toArray, List.set_cons_zero, List.set_cons_succ]
                      iterate 2 (refine lexG_p rfl (fun K hK => ?_); go_simp; (try go_bits); refine hK _ ?_; clear hK K)
                      refine lexG_skip rfl rfl ?_
                      simp only [Act.put, List.setIfInBounds_toArray, List.set_cons_zero, List.set_cons_succ]
                      iterate 3 (refine lexG_p rfl (fun K hK => ?_); go_simp; (try go_bits); refine hK _ ?_; clear hK K)
                      refine lexG_nil fun w8 hG8 => ?_
                      go_wp2_with fail
                      go_roundw
                      case rel => first | exact ⟨x + 1, rfl, by omega, hGc.trans hG8⟩ | ((repeat apply Exists.intro); exact ⟨⟨x + 1, rfl, by omega, hGc.trans hG8⟩, rfl⟩)
                      case measure => simp [intOf]; omega
                · by_cases hm0 : m = 0
                  · have e0 : ((m : Int) == 0) = true := by simp; omega
                    have hcv : Covers X Y W H m x y := HCV.out.2 (of_decide_eq_true Hinn.out.symm)
                    rw [hm0] at hcv hxS hyS'
                    have hwin := with_in D wrap ts ls X Y W H hts hXW hYH Hls.out x y hxS hyS' hcv
                    obtain ⟨q1, q2, q3, q4⟩ := hcv
                    simp only [Nat.pow_zero, Nat.mul_one] at q1 q2 q3 q4
                    obtain ⟨qy, hqy⟩ : ∃ qy, y = Y + qy := ⟨y - Y, by omega⟩
                    obtain ⟨qx, hqx⟩ : ∃ qx, x = X + qx := ⟨x - X, by omega⟩
                    have r1 : (qy + 1) * W ≤ H * W := Nat.mul_le_mul_right _ (by omega)
                    rw [Nat.add_mul, Nat.one_mul, Nat.mul_comm H W] at r1
                    have r2 : W * H ≤ 4 * 4 := Nat.mul_le_mul hW4 hH4
                    have r3 : qy * W + qx < W * H := by omega
                    obtain ⟨pq, hpq⟩ : ∃ pq, qy * W = pq := ⟨_, rfl⟩
                    rw [hpq] at r1 r3
                    have hidx : (y - Y) * W + (x - X) = pq + qx := by rw [hqy, hqx, Nat.add_sub_cancel_left, Nat.add_sub_cancel_left, hpq]
                    rw [hidx] at hwin
                    obtain ⟨cc, hcc⟩ : ∃ cc, ls[pq + qx]? = some cc := ⟨_, List.getElem?_eq_getElem (by rw [Hls.out]; exact r3)⟩
                    rw [List.getD, hcc, Option.getD_some] at hwin
                    have Hcell : Hid (∀ j u, cc.cells[j]? = some u → w6.cell? ⟨b3, o3 + (pq + qx) * 4 + j, none⟩ = some u) := fun j u hu => by
                      obtain ⟨b', o', he, _, hc⟩ := Cols.at_ Hcs6.out (k := pq + qx) (by rw [Hls.out]; exact r3)
                      injection he with he
                      injection he with h1 h2
                      subst h1
                      subst h2
                      rw [Nat.add_assoc]
                      exact hc _ _ hcc j u hu
                    have HT2 : Hid (∀ w', Gr w6 w' → Calls Try.prog 13 #[.pointer (some ⟨g2, 0, none⟩), .int .i64 0, .int .i64 (x : Int), .int .i64 (y : Int)] w' fun e w'' => e = .returned cc.val ∧ Gr w' w'') := fun w' hG => by
                      have := at_pyr g2 _ 0 (x : Int) (y : Int) w' (Hp2.out.gr hG) (by omega) (by omega) (by omega) (by omega)
                      have e : (pyrOf (pyrOf D wrap ts).d (pyrOf D wrap ts).wrap (withRows ts (sideN (pyrOf D wrap ts).d 0) X Y W ls H)).at 0 (x : Int) (y : Int) = cc := hwin
                      rwa [e] at this
                    have qn : ∀ w', (binOp .neq 35 cc.val cc.val).run Try.prog w' = .ok (.bool false) w' := fun w' => by rw [col_neq, decide_eq_true rfl]; rfl
                    have hpqI : (qy : Int) * (W : Int) = (pq : Int) := by rw [← hpq]; simp
                    have eq1 : Hid ((y : Int) - (Y : Int) = (qy : Int)) := by show _ = _; omega
                    have eq2 : Hid (wrap64 ((qy : Int) * (W : Int)) = (pq : Int)) := by show _ = _; rw [hpqI]; exact IntWalk.wrap64_in _ (by omega)
                    have eq3 : Hid ((pq : Int) + (x : Int) - (X : Int) = ((pq + qx : Nat) : Int)) := by show _ = _; omega
                    have eq5 : Hid (wrap64 (wrap64 (wrap64 (wrap64 (qy : Int) * (W : Int)) + (x : Int)) - (X : Int)) = ((pq + qx : Nat) : Int)) := by
                      show _ = _
                      rw [IntWalk.wrap64_in (qy : Int) (by omega), hpqI, IntWalk.wrap64_in (pq : Int) (by omega), IntWalk.wrap64_in ((pq : Int) + (x : Int)) (by omega), IntWalk.wrap64_in _ (by omega)]
                      omega
                    have gix : (0 : Int) ≤ ((pq + qx : Nat) : Int) ∧ ((pq + qx : Nat) : Int) < (W : Int) * (H : Int) := ⟨by omega, by exact_mod_cast r3⟩
                    have hpq16 : pq ≤ 16 := by omega
                    have hix : ((pq + qx : Nat) : Int) < ((W * H : Nat) : Int) := by omega
                    have hix2 : pq + qx < W * H := r3
                    have hYy : Y ≤ y := by omega
                    have hyb : y ≤ 32 := by omega
                    generalize pq + qx = ix at *
                    have Hm0 : Hid _ := hm0
                    clear hm0 hcc hwin hidx hpq hqx hqy r1 r2 r3 q1 q2 q3 q4 hxS hyS' hpqI
                    as_aux_lemma =>
                      go_wp2_with fail
                      refine wp_region_lex [(0, .p), (1, .p), (2, .p), (3, .p), (4, .p), (5, .p), (6, .p), (7, .t), (8, .p), (9, .p), (10, .p), (11, .p), (12, .t), (13, .p), (14, .p), (15, .p), (16, .p), (17, .p), (18, .p), (19, .p), (20, .p), (21, .p), (22, .p), (23, .p), (24, .p), (25, .t), (26, .p), (27, .t), (28, .p), (29, .p), (30, .t), (31, .p), (32, .p), (33, .t), (34, .p), (35, .p), (36, .p), (37, .p), (38, .t), (39, .p), (40, .p), (41, .t), (42, .p), (43, .p), (44, .p)] [] (by kernel_rfl) (by kernel_rfl) ?_
                      iterate 7 (refine lexG_p rfl (fun K hK => ?_); go_simp; (try go_bits); refine hK _ ?_; clear hK K)
                      refine lexG_skip rfl rfl ?_
                      simp only [Act.put, List.setIfInBounds_toArray, List.set_cons_zero, List.set_cons_succ]
                      iterate 4 (refine lexG_p rfl (fun K hK => ?_); go_simp; (try go_bits); refine hK _ ?_; clear hK K)
                      refine lexG_skip rfl rfl ?_
                      simp only [Act.put, List.setIfInBounds_toArray, List.set_cons_zero, List.set_cons_succ]
                      iterate 12 (refine lexG_p rfl (fun K hK => ?_); go_simp; (try go_bits); refine hK _ ?_; clear hK K)
                      refine lexG_tx rfl rfl rfl ?_; apply Exists.intro; refine ⟨fun w' hG => ?_, ?_⟩
                      · go_simp
                        exact HT2.out w' (hGc.trans hG)
                      simp only [Act.put, List.setIfInBounds_toArray, List.set_cons_zero, List.set_cons_succ]
                      iterate 1 (refine lexG_p rfl (fun K hK => ?_); go_simp; (try go_bits); refine hK _ ?_; clear hK K)
                      refine lexG_load1 rfl rfl rfl rfl rfl agg_cols (hGc.cell HMEM.out.2.2.2.2.2.1) ?_
                      simp only [Act.put, List.setIfInBounds_toArray, List.set_cons_zero, List.set_cons_succ]
                      iterate 2 (refine lexG_p rfl (fun K hK => ?_); go_simp; (try go_bits); refine hK _ ?_; clear hK K)
                      refine lexG_load1 rfl rfl rfl rfl rfl agg_int (hGc.cell HMEM.out.2.2.1) ?_
                      simp only [Act.put, List.setIfInBounds_toArray, List.set_cons_zero, List.set_cons_succ]
                      refine lexG_p rfl (fun K hK => ?_); go_simp; (try simp only [eq1.out]); (try go_bits); refine hK _ ?_; clear hK K
                      iterate 1 (refine lexG_p rfl (fun K hK => ?_); go_simp; (try go_bits); refine hK _ ?_; clear hK K)
                      refine lexG_load1 rfl rfl rfl rfl rfl agg_int (hGc.cell HMEM.out.2.2.2.1) ?_
                      simp only [Act.put, List.setIfInBounds_toArray, List.set_cons_zero, List.set_cons_succ]
                      refine lexG_p rfl (fun K hK => ?_); go_simp; (try simp only [eq2.out]); (try go_bits); refine hK _ ?_; clear hK K
                      iterate 3 (refine lexG_p rfl (fun K hK => ?_); go_simp; (try go_bits); refine hK _ ?_; clear hK K)
                      refine lexG_load1 rfl rfl rfl rfl rfl agg_int (hGc.cell HMEM.out.2.1) ?_
                      simp only [Act.put, List.setIfInBounds_toArray, List.set_cons_zero, List.set_cons_succ]
                      refine lexG_p rfl (fun K hK => ?_); go_simp; (try simp only [eq3.out]); (try go_bits); refine hK _ ?_; clear hK K
                      refine lexG_p rfl (fun K hK => ?_); go_simp; simp only [eq5.out, Int.toNat_natCast, if_pos gix]; (try go_simp); refine hK _ ?_; clear hK K
                      refine lexG_loadn (cs := cc.cells) rfl rfl rfl rfl rfl agg_col size_col (fun j u hu => by rw [Addr.add_lit]; exact hGc.cell (Hcell.out j u hu)) ?_
                      simp only [Act.put, List.setIfInBounds_toArray, List.set_cons_zero, List.set_cons_succ]
                      iterate 3 (refine lexG_p rfl (fun K hK => ?_); go_simp; (try go_bits); refine hK _ ?_; clear hK K)
                      refine lexG_nil fun w8 hG8 => ?_
                      go_wp2_with fail
                      go_roundw
                      case rel => first | exact ⟨x + 1, rfl, by omega, hGc.trans hG8⟩ | ((repeat apply Exists.intro); exact ⟨⟨x + 1, rfl, by omega, hGc.trans hG8⟩, rfl⟩)
                      case measure => simp [intOf]; omega
                  · have e0 : ((m : Int) == 0) = false := by simp; omega
                    clear hxS hyS'
                    as_aux_lemma =>
                      go_wp2_with fail
                      refine wp_region_lex [(0, .p), (1, .p), (2, .p), (3, .p), (4, .p), (5, .p), (6, .p), (7, .t), (8, .p), (9, .p), (10, .p), (11, .p), (12, .t), (13, .p), (14, .p), (15, .p), (16, .p), (17, .p), (18, .p), (19, .p), (20, .p), (21, .p), (22, .p), (23, .p), (24, .p), (25, .t), (26, .p), (27, .t), (28, .p), (29, .p), (30, .t), (31, .p), (32, .p), (33, .t), (34, .p), (35, .p), (36, .p), (37, .p), (38, .t), (39, .p), (40, .p), (41, .t), (42, .p), (43, .p), (44, .p)] [] (by kernel_rfl) (by kernel_rfl) ?_
                      iterate 7 (refine lexG_p rfl (fun K hK => ?_); go_simp; (try go_bits); refine hK _ ?_; clear hK K)
                      refine lexG_skip rfl rfl ?_
                      simp only [Act.put, List.setIfInBounds_toArray, List.set_cons_zero, List.set_cons_succ]
                      iterate 4 (refine lexG_p rfl (fun K hK => ?_); go_simp; (try go_bits); refine hK _ ?_; clear hK K)
                      refine lexG_skip rfl rfl ?_
                      simp only [Act.put, List.setIfInBounds_toArray, List.set_cons_zero, List.set_cons_succ]
                      iterate 12 (refine lexG_p rfl (fun K hK => ?_); go_simp; (try go_bits); refine hK _ ?_; clear hK K)
                      refine lexG_skip rfl rfl ?_
                      simp only [Act.put, List.setIfInBounds_toArray, List.set_cons_zero, List.set_cons_succ]
                      iterate 1 (refine lexG_p rfl (fun K hK => ?_); go_simp; (try go_bits); refine hK _ ?_; clear hK K)
                      refine lexG_skip rfl rfl ?_
                      simp only [Act.put, List.setIfInBounds_toArray, List.set_cons_zero, List.set_cons_succ]
                      iterate 2 (refine lexG_p rfl (fun K hK => ?_); go_simp; (try go_bits); refine hK _ ?_; clear hK K)
                      refine lexG_skip rfl rfl ?_
                      simp only [Act.put, List.setIfInBounds_toArray, List.set_cons_zero, List.set_cons_succ]
                      iterate 2 (refine lexG_p rfl (fun K hK => ?_); go_simp; (try go_bits); refine hK _ ?_; clear hK K)
                      refine lexG_skip rfl rfl ?_
                      simp only [Act.put, List.setIfInBounds_toArray, List.set_cons_zero, List.set_cons_succ]
                      iterate 4 (refine lexG_p rfl (fun K hK => ?_); go_simp; (try go_bits); refine hK _ ?_; clear hK K)
                      refine lexG_skip rfl rfl ?_
                      simp only [Act.put, List.setIfInBounds_toArray, List.set_cons_zero, List.set_cons_succ]
                      iterate 2 (refine lexG_p rfl (fun K hK => ?_); go_simp; (try go_bits); refine hK _ ?_; clear hK K)
                      refine lexG_skip rfl rfl ?_
                      simp only [Act.put, List.setIfInBounds_toArray, List.set_cons_zero, List.set_cons_succ]
                      iterate 3 (refine lexG_p rfl (fun K hK => ?_); go_simp; (try go_bits); refine hK _ ?_; clear hK K)
                      refine lexG_nil fun w8 hG8 => ?_
                      go_wp2_with fail
                      go_roundw
                      case rel => first | exact ⟨x + 1, rfl, by omega, hGc.trans hG8⟩ | ((repeat apply Exists.intro); exact ⟨⟨x + 1, rfl, by omega, hGc.trans hG8⟩, rfl⟩)
                      case measure => simp [intOf]; omega
            · have hxe : x = S := by omega
              subst hxe
              go_wp2_with (go_at_call 12; refine (HS.out _ hGx).mono ?_; rintro e w' ⟨rfl, rfl⟩)
              go_roundw
              case rel => exact ⟨y + 1, rfl, by omega, hGx⟩
              case measure => simp [intOf]; omega
        · have hye : y = S := by omega
          subst hye
          go_wp2_with (go_at_call 12; refine (HS.out _ hGy).mono ?_; rintro e w' ⟨rfl, rfl⟩)
          go_roundw
          case rel => exact ⟨m + 1, rfl, by omega, hGy⟩
          case measure => simp [intOf]; omega
    · have hmI : ¬ (m : Int) ≤ (D : Int) := by omega
      have HTX : Hid (∀ w', Gr w6 w' → Calls Try.prog 17 #[.pointer (some ⟨g, 0, none⟩)] w' fun e w'' => ∃ A c', e = .returned (.agg #[.int .i64 D, .bool wrap, .slice A (sideN D 0 * sideN D 0) c']) ∧ Cols w'' A ts ∧ Gr w' w'') := fun w' hG => by
        have h := texture_any g (pyrOf D wrap ts) ts w' (Hp6.out.gr hG) (by simp [pyrOf, lvl])
        rw [hts] at h
        refine h.mono ?_
        rintro e w'' ⟨A, c', rfl, hown, hG'⟩
        exact ⟨A, c', rfl, by unfold Cols; rw [hts]; exact Sl.of_own hown, hG'⟩
      have HSM : Hid (∀ (B : Option Addr) (c1 : Nat) w', Gr w6 w' → Cols w' B ts → Calls Try.prog 16 #[.agg #[.int .i64 D, .bool wrap, .slice B (sideN D 0 * sideN D 0) c1], .agg #[.int .i64 D, .bool wrap, .slice A2 (sideN D 0 * sideN D 0) c2]] w' fun e w'' => e = .returned (.bool true) ∧ Gr w' w'') := fun B c1 w' hG hB => by
        have hle : sideN D 0 * sideN D 0 ≤ 32 * 32 := Nat.mul_le_mul hNb.2 hNb.2
        have h := sameTex_core B A2 c1 c2 D wrap ts ts w' hB (Hc6.out.gr hG) rfl (by omega)
        rw [hts, decide_eq_true rfl] at h
        exact h
      clear hts hXW hYH hlc
      go_wp2_with fail
      refine wp_region_lex [(0, .p), (2, .t), (1, .s), (3, .s), (4, .p), (5, .t), (6, .p), (7, .p)] [] (by kernel_rfl) (by kernel_rfl) ?_
      (refine lexG_p rfl (fun K hK => ?_); go_simp; (try go_bits); refine hK _ ?_; clear hK K)
      refine lexG_loadn (cs := [.int .i64 D, .bool wrap, .slice A2 (sideN D 0 * sideN D 0) c2]) rfl rfl rfl rfl rfl agg_tex size_tex (fun j u hu => by rw [Addr.add_lit, Nat.zero_add]; exact row_cell (hGm.heap HMEM.out.1) j (by simpa using hu)) ?_
      simp only [Act.put, List.setIfInBounds_toArray, List.set_cons_zero, List.set_cons_succ]
      refine lexG_s rfl (fun w7 hG7 K hK => ?_); go_simp
      refine (HTX.out w7 (hGm.trans hG7)).mono ?_
      rintro e w8 ⟨A5, c5, rfl, hA5, hG8⟩
      refine hK _ _ (fun _ => hG8) ?_
      clear hK K
      refine lexG_s rfl (fun w9 hG9 K hK => ?_); go_simp
      refine (HSM.out A5 c5 w9 (((hGm.trans hG7).trans hG8).trans hG9) (hA5.gr hG9)).mono ?_
      rintro e w10 ⟨rfl, hG10⟩
      refine hK _ _ (fun _ => hG10) ?_
      clear hK K
      (refine lexG_p rfl (fun K hK => ?_); go_simp; (try go_bits); refine hK _ ?_; clear hK K)
      refine lexG_tx rfl rfl rfl ?_; apply Exists.intro; refine ⟨fun w' hG => ?_, ?_⟩
      · go_simp
        exact HA.out w'
      simp only [Act.put, List.setIfInBounds_toArray, List.set_cons_zero, List.set_cons_succ]
      iterate 2 (refine lexG_p rfl (fun K hK => ?_); go_simp; (try go_bits); refine hK _ ?_; clear hK K)
      refine lexG_nil fun w11 hG11 => ?_
      go_wp2_with fail
      go_ret
      exact ⟨rfl, hG06.trans (((((hGm.trans hG7).trans hG8).trans hG9).trans hG10).trans hG11)⟩

set_option maxRecDepth 100000 in
theorem mipsWith_early (d : Int) (wrap : Bool) (A : Option Addr) (n c : Nat) (v : Value) (w : World) (h : 50 < n) (hv : ∃ t0 t1 t2 t3, v = .agg #[.int .i64 t0, .int .i64 t1, .int .i64 t2, .int .i64 t3]) :
    Calls Try.prog 4 #[.int .i64 d, .bool wrap, .slice A n c, v] w fun e w' => e = .returned (.bool true) ∧ Gr w w' := by
  have HA : Hid _ := fun w' => awake14 w'
  obtain ⟨t0, t1, t2, t3, rfl⟩ := hv
  have h1 : 50 < (n : Int) := by omega
  have h1b : decide (50 < (n : Int)) = true := by simp; omega
  go_enter Try.func4, Try.ntmps4
  go_wp2_with fail
  refine (HA.out _).mono ?_
  rintro e w' ⟨rfl, hG⟩
  go_wp2_with fail
  go_ret
  exact ⟨rfl, ((Gr.refl w).alloc _).trans hG⟩

theorem mipsWith_any (d : Int) (wrap : Bool) (A : Option Addr) (c : Nat) (l : List Int) (t0 t1 t2 t3 : Int) (w : World) (hl : Ints w A l) (hb : ∀ x ∈ l, -9223372036854775808 ≤ x ∧ x ≤ 9223372036854775807) (hb2 : ∀ x ∈ [t0, t1, t2, t3, 3], -9223372036854775808 ≤ x ∧ x ≤ 9223372036854775807) :
    Calls Try.prog 4 #[.int .i64 d, .bool wrap, .slice A l.length c, .agg #[.int .i64 t0, .int .i64 t1, .int .i64 t2, .int .i64 t3]] w fun e w' => e = .returned (.bool true) ∧ Gr w w' := by
  by_cases h : 50 < l.length
  · exact mipsWith_early d wrap A l.length c _ w h ⟨t0, t1, t2, t3, rfl⟩
  · exact mipsWith_core d wrap A l.length c t0 t1 t2 t3 w (d % 4).toNat (by omega) (by omega) hb2 (fun w' hG => paint_any A c l d wrap w' (hl.gr hG) hb (by omega))
end Go.Proofs.Ytgcemgknhkgjoaa
