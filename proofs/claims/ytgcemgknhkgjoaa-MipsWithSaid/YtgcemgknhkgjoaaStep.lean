/-
  An update step of some numbers: StepOf's path at kind 4.
-/
import Derived.Test.YtgcemgknhkgjoaaPaint
set_option linter.unusedVariables false
set_option linter.unusedSimpArgs false
namespace Go.Proofs.Ytgcemgknhkgjoaa
open Go Go.RowKit

def stepCells (X Y W H : Int) (t : Value) : List Value :=
  [.int .i64 4, .int .i64 0, .int .i64 0, .int .i64 0, .int .i64 0, .int .i64 0, .int .i64 0, .int .i64 0, .int .i64 0, .int .i64 0, .int .i64 0, .int .i64 0, .int .i64 0, .int .i64 0, .int .i64 0, .int .i64 0, .int .i64 0,
   .slice none 0 0, .int .i64 X, .int .i64 Y, .int .i64 W, .int .i64 H, t, .int .i64 0, .int .i64 0]

def zeroCells : List Value := [.int .i64 0, .int .i64 0, .int .i64 0, .int .i64 0, .int .i64 0, .int .i64 0, .int .i64 0, .int .i64 0, .int .i64 0, .int .i64 0, .int .i64 0, .int .i64 0, .int .i64 0, .int .i64 0, .int .i64 0, .int .i64 0, .int .i64 0, .slice none 0 0, .int .i64 0, .int .i64 0, .int .i64 0, .int .i64 0, .slice none 0 0, .int .i64 0, .int .i64 0]
theorem size_step : ∀ w : World, (sizeOf 43).run Try.prog w = .ok 25 w := fun _ => by kernel_rfl
theorem splice_step (X Y : Int) : splice zeroCells.toArray 0 (stepCells X Y 0 0 (.slice none 0 0)) = (stepCells X Y 0 0 (.slice none 0 0)).toArray := by kernel_rfl
theorem splice_step20 (X Y W : Int) : splice (stepCells X Y 0 0 (.slice none 0 0)).toArray 20 [.int .i64 W] = (stepCells X Y W 0 (.slice none 0 0)).toArray := by kernel_rfl
theorem splice_step21 (X Y W H : Int) : splice (stepCells X Y W 0 (.slice none 0 0)).toArray 21 [.int .i64 H] = (stepCells X Y W H (.slice none 0 0)).toArray := by kernel_rfl
theorem splice_step22 (X Y W H : Int) (t u : Value) : splice (stepCells X Y W H t).toArray 22 [u] = (stepCells X Y W H u).toArray := by kernel_rfl
theorem splice_step0 (X Y W H : Int) (t : Value) : splice zeroCells.toArray 0 (stepCells X Y W H t) = (stepCells X Y W H t).toArray := by kernel_rfl

section
variable {P : Program} {o : Oper} {a : Act} {w : World}
theorem wpList_store_abs {ops : Array Oper} {rest : List Oper} {Q : Exit → Act → World → Prop} {ty : TypeId} {x y : Operand} (hgd : o.guard = none) (ho : o.op = .store ty x y) (g off : Nat) (t : TypeId) (cur : Array Value) (cs : List Value)
    (hx : a.eval x = .pointer (some ⟨g, off, none⟩)) (hy : (a.eval y).cells = cs.toArray) (hs : ∀ w, (sizeOf ty).run P w = .ok cs.length w) (hb : w.heap[g]? = some (.cells cur t (0, 0)))
    (hfit : off + cs.length ≤ cur.size) (h1 : ∀ v ∈ cs, v.oneCell' = true) (h : ∀ w', Hid (w' = w.setRow g (splice cur off cs)) → wpList P ops Q rest (a.put o.dst undef) w') : wpList P ops Q (o :: rest) a w :=
  wpList_store_row hgd ho g off t cur cs hx hy hs hb hfit h1 (h _ rfl)
end

/-- The memory behind the first store: the step's block, the result's block. -/
theorem step_mem {w w1 w2 w3 : World} (X Y : Int) (hG1 : Gr (w.alloc (.cells zeroCells.toArray 43)) w1) (hG2 : Gr w1 w2)
    (e : w3 = (w2.alloc (.cells zeroCells.toArray 43)).setRow w2.heap.size (splice zeroCells.toArray 0 (stepCells X Y 0 0 (.slice none 0 0)))) :
    w3.heap[w2.heap.size]? = some (.cells (stepCells X Y 0 0 (.slice none 0 0)).toArray 43 (0, 0)) ∧ w3.heap[w.heap.size]? = some (.cells zeroCells.toArray 43 (0, 0)) ∧ Gr w w3 ∧ w.heap.size < w2.heap.size := by
  have h1 := hG1.size
  have h2 := hG2.size
  have hgs : w.heap.size < w2.heap.size := by simp at h1; omega
  subst e
  refine ⟨?_, ?_, ?_, hgs⟩
  · have := setRow_at (heap_alloc_new w2 (.cells zeroCells.toArray 43)) (splice zeroCells.toArray 0 (stepCells X Y 0 0 (.slice none 0 0)))
    rwa [splice_step] at this
  · rw [setRow_else (by omega)]
    exact ((Gr.refl w2).alloc _).heap (hG2.heap (hG1.heap (heap_alloc_new w _)))
  · exact ((((Gr.refl w).alloc _).trans hG1).trans hG2).alloc _ |>.setRow (by omega) _

theorem own_cap {w : World} {base n c : Nat} {A : Option Addr} {xs : List Value} (h : w.ownsRow base 35 4 (.slice A n c) n xs) : n ≤ c := by
  rcases h.2 with ⟨hv, hn⟩ | ⟨g, cap, cur, hv, hb, hgg, h1, h2, h3, h4⟩
  · omega
  · injection hv with _ _ hv3
    omega

theorem step_res {w wr w9 : World} {X Y W H : Int} {t : Value} (hRes : wr.heap[w.heap.size]? = some (.cells zeroCells.toArray 43 (0, 0)))
    (e : w9 = wr.setRow w.heap.size (splice zeroCells.toArray 0 (stepCells X Y W H t))) : w9.heap[w.heap.size]? = some (.cells (stepCells X Y W H t).toArray 43 (0, 0)) := by
  subst e
  have := setRow_at hRes (splice zeroCells.toArray 0 (stepCells X Y W H t))
  rwa [splice_step0] at this

theorem step_own {w wr w9 : World} {X Y W H : Int} {k c : Nat} {ls : List Col} {A : Option Addr} (hls : ls.length = k) (hown : wr.ownsRow w.heap.size 35 4 (.slice A k c) k (cols ls)) (hRes : wr.heap[w.heap.size]? = some (.cells zeroCells.toArray 43 (0, 0)))
    (e : w9 = wr.setRow w.heap.size (splice zeroCells.toArray 0 (stepCells X Y W H (.slice A k c)))) : Cols w9 A ls := by
  subst e
  unfold Cols
  rw [hls]
  exact Sl.of_own (own_setRow hown hRes (by decide))

def StepInv (w : World) (gs : Nat) (X Y W H : Int) (i : Value) (wr : World) : Prop :=
  ∃ (k : Nat) (ls : List Col) (A : Option Addr) (c : Nat), (k : Int) ≤ W * H ∧ i = .int .i64 k ∧ ls.length = k ∧
    wr.heap[gs]? = some (.cells (stepCells X Y W H (.slice A k c)).toArray 43 (0, 0)) ∧
    wr.heap[w.heap.size]? = some (.cells zeroCells.toArray 43 (0, 0)) ∧
    wr.ownsRow w.heap.size 35 4 (.slice A k c) k (cols ls) ∧ Gr w wr

theorem step_step {w w4 w5 w6 w7 : World} {gs k c c2 : Nat} {X Y W H : Int} {ls : List Col} {x : Col} {A A2 : Option Addr} (hgs : w.heap.size < gs) (hk : (k : Int) < W * H) (hls : ls.length = k) (hG4 : Gr w w4)
    (hT : w4.heap[gs]? = some (.cells (stepCells X Y W H (.slice A k c)).toArray 43 (0, 0)))
    (hRes : w4.heap[w.heap.size]? = some (.cells zeroCells.toArray 43 (0, 0)))
    (hown : w4.ownsRow w.heap.size 35 4 (.slice A k c) k (cols ls))
    (hap : Appd w4 w5 w.heap.size 35 4 (.slice A k c) A2 (k + 1) c2 (cols ls ++ x.cells)) (hG6 : Gr w5 w6)
    (hG7 : Gr (w6.setRow gs (splice (stepCells X Y W H (.slice A k c)).toArray 22 [.slice A2 (k + 1) c2])) w7) : StepInv w gs X Y W H (.int .i64 ((k : Int) + 1)) w7 := by
  have hT5 := hap.block hown hT (by decide)
  have hR5 := hap.block hown hRes (by decide)
  have hT6 := hG6.heap hT5
  have hR6 := hG6.heap hR5
  have hG5 : Gr w w5 := hap.gr hown hG4 (Nat.le_refl _)
  refine ⟨k + 1, ls ++ [x], A2, c2, by omega, rfl, by simp [hls], ?_, ?_, ?_, ?_⟩
  · have := hG7.heap (setRow_at hT6 _)
    rwa [splice_step22] at this
  · exact hG7.heap ((setRow_else (by omega) _).trans hR6)
  · rw [cols_snoc]
    exact own_gr (own_setRow (own_gr hap.own hG6) hT6 (by decide)) hG7
  · exact ((hG5.trans hG6).setRow (by omega) _).trans hG7

theorem size_int : ∀ w : World, (sizeOf 3).run Try.prog w = .ok 1 w := fun _ => by kernel_rfl

theorem step_start {w w3 w4 w5 w6 : World} {gs : Nat} (X Y W H : Int) (hgs : w.heap.size < gs) (hG3 : Gr w w3) (hR3 : w3.heap[w.heap.size]? = some (.cells zeroCells.toArray 43 (0, 0))) (hG4 : Gr w3 w4)
    (hG5 : Gr (w4.setRow gs (splice (stepCells X Y 0 0 (.slice none 0 0)).toArray 20 [.int .i64 W])) w5) (hS5 : w5.heap[gs]? = some (.cells (stepCells X Y W 0 (.slice none 0 0)).toArray 43 (0, 0)))
    (hG6 : Gr (w5.setRow gs (splice (stepCells X Y W 0 (.slice none 0 0)).toArray 21 [.int .i64 H])) w6) (h0 : 0 ≤ W * H) : StepInv w gs X Y W H (.int .i64 0) w6 := by
  refine ⟨0, [], none, 0, by omega, rfl, rfl, ?_, ?_, World.ownsRow_nil _ _ _ _, ?_⟩
  · have := hG6.heap (setRow_at hS5 _)
    rwa [splice_step21] at this
  · refine hG6.heap ?_
    rw [setRow_else (by omega)]
    refine hG5.heap ?_
    rw [setRow_else (by omega)]
    exact hG4.heap hR3
  · exact ((((hG3.trans hG4).setRow (by omega) _).trans hG5).setRow (by omega) _).trans hG6

set_option maxRecDepth 100000 in
set_option maxHeartbeats 2000000 in
theorem step_core (A : Option Addr) (L c D N X Y V Z : Nat) (tx : Nat → Int) (w : World) (hD : D ≤ 3) (hN : wrap64 (4 * 2 ^ D) = (N : Int)) (hN1 : 4 ≤ N) (hN2 : N ≤ 32) (hX : X < N) (hY : Y < N) (hV : (V : Int) < min 4 ((N : Int) - X)) (hZ : (Z : Int) < min 4 ((N : Int) - Y))
    (hR : ∀ w', Calls Try.prog 11 #[.int .i64 4, .int .i64 8] w' fun e w'' => e = .returned (.int .i64 4) ∧ w' = w'')
    (h0 : ∀ w', Gr w w' → Calls Try.prog 29 #[.slice A L c, .int .i64 0, .int .i64 (N : Int)] w' fun e w'' => e = .returned (.int .i64 (X : Int)) ∧ Gr w' w'')
    (h1 : ∀ w', Gr w w' → Calls Try.prog 29 #[.slice A L c, .int .i64 1, .int .i64 (N : Int)] w' fun e w'' => e = .returned (.int .i64 (Y : Int)) ∧ Gr w' w'')
    (h2 : ∀ w', Gr w w' → Calls Try.prog 29 #[.slice A L c, .int .i64 2, .int .i64 (min 4 ((N : Int) - X))] w' fun e w'' => e = .returned (.int .i64 (V : Int)) ∧ Gr w' w'')
    (h3 : ∀ w', Gr w w' → Calls Try.prog 29 #[.slice A L c, .int .i64 3, .int .i64 (min 4 ((N : Int) - Y))] w' fun e w'' => e = .returned (.int .i64 (Z : Int)) ∧ Gr w' w'')
    (hAt : ∀ (k : Nat) w', k ≤ 16 → Gr w w' → Calls Try.prog 29 #[.slice A L c, .int .i64 ((k : Int) + 4), .int .i64 1000] w' fun e w'' => e = .returned (.int .i64 (tx k)) ∧ Gr w' w'')
    (hSh : ∀ (n : Int) w', Calls Try.prog 30 #[.int .i64 n] w' fun e w'' => e = .returned (shade n).val ∧ Gr w' w'') :
    Calls Try.prog 14 #[.int .i64 D, .slice A L c, .int .i64 4, .int .i64 0] w fun e w' => ∃ A2 c2 ls, e = .returned (.agg (stepCells X Y (V + 1 : Nat) (Z + 1 : Nat) (.slice A2 ls.length c2)).toArray) ∧ ls.length = (V + 1) * (Z + 1) ∧ ls.length ≤ c2 ∧ Cols w' A2 ls ∧ Gr w w' := by
  have HN : Hid _ := hN
  have H0 : Hid _ := h0
  have H1 : Hid _ := h1
  have H2 : Hid _ := h2
  have H3 : Hid _ := h3
  have HAt : Hid _ := hAt
  have HSh : Hid _ := hSh
  have HR : Hid _ := hR
  clear hR h0 h1 h2 h3 hAt hSh hN
  go_enter Try.func14, Try.ntmps14
  go_wp2_with (first
    | (go_at_call 11; refine (HR.out _).mono ?_; rintro e w' ⟨rfl, rfl⟩))
  rw [HN.out]
  refine (H0.out _ ((Gr.refl w).alloc _)).mono ?_
  rintro e w1 ⟨rfl, hG1⟩
  go_wp2_with fail
  refine (H1.out _ (((Gr.refl w).alloc _).trans hG1)).mono ?_
  rintro e w2 ⟨rfl, hG2⟩
  go_wp2_with (first
    | (refine wpList_store_abs rfl rfl w2.heap.size 0 43 _ [.int .i64 4, .int .i64 0, .int .i64 0, .int .i64 0, .int .i64 0, .int .i64 0, .int .i64 0, .int .i64 0, .int .i64 0, .int .i64 0, .int .i64 0, .int .i64 0, .int .i64 0, .int .i64 0, .int .i64 0, .int .i64 0, .int .i64 0, .slice none 0 0, .int .i64 (X : Int), .int .i64 (Y : Int), .int .i64 0, .int .i64 0, .slice none 0 0, .int .i64 0, .int .i64 0] rfl rfl size_step (heap_alloc_new w2 (.cells #[.int .i64 0, .int .i64 0, .int .i64 0, .int .i64 0, .int .i64 0, .int .i64 0, .int .i64 0, .int .i64 0, .int .i64 0, .int .i64 0, .int .i64 0, .int .i64 0, .int .i64 0, .int .i64 0, .int .i64 0, .int .i64 0, .int .i64 0, .slice none 0 0, .int .i64 0, .int .i64 0, .int .i64 0, .int .i64 0, .slice none 0 0, .int .i64 0, .int .i64 0] 43)) (by simp) (by simp [Value.oneCell']) ?_; intro w3 hw3))
  obtain ⟨hS3, hR3, hG3, hgs⟩ := step_mem (X : Int) (Y : Int) hG1 hG2 hw3.out
  have HGS : Hid _ := hgs
  clear hgs hG1 hG2 hw3
  generalize w2.heap.size = gs at *
  obtain ⟨mv, hmv⟩ : ∃ mv : Int, min 4 ((N : Int) - X) = mv := ⟨_, rfl⟩
  obtain ⟨mz, hmz⟩ : ∃ mz : Int, min 4 ((N : Int) - Y) = mz := ⟨_, rfl⟩
  rw [hmv] at H2 hV
  rw [hmz] at H3 hZ
  have HMV : Hid ((if (N : Int) - X < 4 then (N : Int) - X else 4) = mv) := by show _ = _; rw [← hmv]; split <;> omega
  have HMZ : Hid ((if (N : Int) - Y < 4 then (N : Int) - Y else 4) = mz) := by show _ = _; rw [← hmz]; split <;> omega
  have hV4 : V < 4 := by omega
  have hZ4 : Z < 4 := by omega
  clear hmv hmz hV hZ
  refine wp_region_lex [(0, .p), (1, .p), (2, .p), (3, .p), (4, .p), (5, .t), (6, .p), (7, .p), (8, .t), (9, .p), (10, .p), (11, .p), (12, .p), (13, .p), (14, .p), (15, .t), (16, .p), (17, .p), (18, .t), (19, .p), (20, .p), (21, .s), (22, .p), (23, .s)] [21, 23] (by kernel_rfl) (by kernel_rfl) ?_
  iterate 5 (refine lexG_p rfl (fun K hK => ?_); go_simp; (try go_bits); refine hK _ ?_; clear hK K)
  refine lexG_load1 rfl rfl rfl rfl rfl agg_int (row_cell (v := .int .i64 (X : Int)) hS3 18 rfl) ?_
  simp only [Act.put, List.setIfInBounds_toArray, List.set_cons_zero, List.set_cons_succ]
  iterate 1 (refine lexG_p rfl (fun K hK => ?_); go_simp; (try go_bits); refine hK _ ?_; clear hK K)
  refine lexG_p rfl (fun K hK => ?_); go_simp; simp only [HMV.out]; refine hK _ ?_; clear hK K
  refine lexG_tx rfl rfl rfl ?_; apply Exists.intro; refine ⟨fun w' hG => ?_, ?_⟩
  · go_simp
    exact H2.out _ (hG3.trans hG)
  simp only [Act.put, List.setIfInBounds_toArray, List.set_cons_zero, List.set_cons_succ]
  iterate 6 (refine lexG_p rfl (fun K hK => ?_); go_simp; (try go_bits); refine hK _ ?_; clear hK K)
  refine lexG_load1 rfl rfl rfl rfl rfl agg_int (row_cell (v := .int .i64 (Y : Int)) hS3 19 rfl) ?_
  simp only [Act.put, List.setIfInBounds_toArray, List.set_cons_zero, List.set_cons_succ]
  iterate 1 (refine lexG_p rfl (fun K hK => ?_); go_simp; (try go_bits); refine hK _ ?_; clear hK K)
  refine lexG_p rfl (fun K hK => ?_); go_simp; simp only [HMZ.out]; refine hK _ ?_; clear hK K
  refine lexG_tx rfl rfl rfl ?_; apply Exists.intro; refine ⟨fun w' hG => ?_, ?_⟩
  · go_simp
    exact H3.out _ (hG3.trans hG)
  simp only [Act.put, List.setIfInBounds_toArray, List.set_cons_zero, List.set_cons_succ]
  iterate 2 (refine lexG_p rfl (fun K hK => ?_); go_simp; (try go_bits); refine hK _ ?_; clear hK K)
  refine lexG_store rfl rfl rfl rfl gs 20 43 _ [.int .i64 (1 + (V : Int))] rfl rfl size_int hS3 (by simp [stepCells]) (by simp [Value.oneCell']) rfl (fun w4 hG4 hS4 => ?_)
  iterate 1 (refine lexG_p rfl (fun K hK => ?_); go_simp; (try go_bits); refine hK _ ?_; clear hK K)
  have hS4b := setRow_at hS4 (splice (stepCells X Y 0 0 (.slice none 0 0)).toArray 20 [.int .i64 (1 + (V : Int))])
  rw [splice_step20] at hS4b
  refine lexG_store rfl rfl rfl rfl gs 21 43 _ [.int .i64 (1 + (Z : Int))] rfl rfl size_int hS4b (by simp [stepCells]) (by simp [Value.oneCell']) rfl (fun w5 hG5 hS5 => ?_)
  refine lexG_nil fun w6 hG6 => ?_
  have hst := step_start X Y (1 + (V : Int)) (1 + (Z : Int)) HGS.out hG3 hR3 hG4 hG5 hS5 hG6 (Int.mul_nonneg (by omega) (by omega))
  clear hG3 hR3 hG4 hG5 hS5 hG6 hS4b hS4 hS3
  have hWH : (0 : Int) ≤ (1 + (V : Int)) * (1 + (Z : Int)) ∧ (1 + (V : Int)) * (1 + (Z : Int)) ≤ 16 := by
    have := Int.mul_le_mul (show 1 + (V : Int) ≤ 4 by omega) (show 1 + (Z : Int) ≤ 4 by omega) (by omega) (by omega)
    exact ⟨Int.mul_nonneg (by omega) (by omega), this⟩
  obtain ⟨WW, hWW⟩ : ∃ WW : Int, 1 + (V : Int) = WW := ⟨_, rfl⟩
  obtain ⟨HH, hHH⟩ : ∃ HH : Int, 1 + (Z : Int) = HH := ⟨_, rfl⟩
  obtain ⟨M, hM⟩ : ∃ M : Nat, WW * HH = (M : Int) := ⟨(WW * HH).toNat, by rw [← hWW, ← hHH]; omega⟩
  rw [hWW, hHH] at hst
  rw [hWW, hHH, hM] at hWH
  have hM16 : (M : Int) ≤ 16 := hWH.2
  have HM : Hid _ := hM
  have hMw : wrap64 (WW * HH) = (M : Int) := by rw [hM]; exact IntWalk.wrap64_in _ (by omega)
  have hV1 : ((V + 1 : Nat) : Int) = WW := by omega
  have hZ1 : ((Z + 1 : Nat) : Int) = HH := by omega
  have hVZ : (V + 1) * (Z + 1) = M := by
    have : (((V + 1) * (Z + 1) : Nat) : Int) = (M : Int) := by rw [← hM, ← hV1, ← hZ1]; simp
    omega
  have HV1 : Hid _ := hV1
  have HZ1 : Hid _ := hZ1
  have HVZ : Hid _ := hVZ
  clear hWH hM hWW hHH hV1 hZ1 hVZ hV4 hZ4 H0 H1 H2 H3 HMV HMZ hX hY
  go_wp2_with fail
  go_loopw [13] (fun i wr => StepInv w gs X Y WW HH i wr) (fun i _ => M - (intOf i).toNat)
  case atStart => exact hst
  case round =>
    clear hst
    obtain ⟨k, ls, A1, c1, hk, rfl, hls, hT, hRes, hown, hGr⟩ := ‹StepInv _ _ _ _ _ _ _ _›
    rw [HM.out] at hk
    have hk16 : k ≤ 16 := by omega
    have cW := row_cell (v := .int .i64 WW) hT 20 rfl
    have cH := row_cell (v := .int .i64 HH) hT 21 rfl
    by_cases hlt : k < M
    · have hltI : (k : Int) < (M : Int) := by omega
      go_wp2_with fail
      refine wp_region_lex [(0, .p), (1, .t), (2, .p), (3, .p), (4, .p), (5, .p), (6, .p), (7, .t), (8, .t), (9, .s), (10, .s), (11, .p), (12, .s)] [10, 12] (by kernel_rfl) (by kernel_rfl) ?_
      iterate 1 (refine lexG_p rfl (fun K hK => ?_); go_simp; (try go_bits); refine hK _ ?_; clear hK K)
      refine lexG_load1 rfl rfl rfl rfl rfl agg_cols (row_cell (v := .slice A1 k c1) hT 22 rfl) ?_
      simp only [Act.put, List.setIfInBounds_toArray, List.set_cons_zero, List.set_cons_succ]
      iterate 5 (refine lexG_p rfl (fun K hK => ?_); go_simp; (try go_bits); refine hK _ ?_; clear hK K)
      refine lexG_tx rfl rfl rfl ?_; apply Exists.intro; refine ⟨fun w' hG => ?_, ?_⟩
      · go_simp
        rw [Int.add_comm 4 (k : Int)]
        exact HAt.out k _ hk16 (hGr.trans hG)
      simp only [Act.put, List.setIfInBounds_toArray, List.set_cons_zero, List.set_cons_succ]
      refine lexG_tx rfl rfl rfl ?_; apply Exists.intro; refine ⟨fun w' hG => ?_, ?_⟩
      · go_simp
        exact HSh.out _ _
      simp only [Act.put, List.setIfInBounds_toArray, List.set_cons_zero, List.set_cons_succ]
      refine lexG_row1 rfl rfl rfl 24 (.tmp 111) rfl ety_col (Col.cells _) rfl rfl (bs_col _) (fun w3 hG3 => ?_)
      simp only [Act.put, List.setIfInBounds_toArray, List.set_cons_zero, List.set_cons_succ]
      refine lexG_app rfl rfl rfl (.tmp 104) (.tmp 112) 24 rfl ety_col w.heap.size (.slice A1 k c1) k (cols ls) rfl (some ⟨w3.heap.size, 0, none⟩) 1 1 _ rfl (by simp [Value.oneCell']) (by unfold maxLen; omega) (by omega) ?_ rfl ?_ (Sl.new w3 _ 4 _ 1 rfl) (fun w4 hG4 A2 c2 w5 hap => ?_)
      · have := hGr.size; have := hG3.size; simp; omega
      · intro w4 hG4; exact own_gr (own_gr hown (hG3.alloc _)) hG4
      simp only [Act.put, List.setIfInBounds_toArray, List.set_cons_zero, List.set_cons_succ]
      have hG24 : Gr _ w4 := (hG3.alloc _).trans hG4
      iterate 1 (refine lexG_p rfl (fun K hK => ?_); go_simp; (try go_bits); refine hK _ ?_; clear hK K)
      refine lexG_store rfl rfl rfl rfl gs 22 43 _ [.slice A2 (k + 1) c2] rfl rfl size_cols (hap.block (own_gr hown hG24) (hG24.heap hT) (by decide)) (by simp [stepCells]) (by simp [Value.oneCell']) rfl (fun w6 hG6 hb6 => ?_)
      refine lexG_nil fun w7 hG7 => ?_
      have hstep := step_step HGS.out (by rw [HM.out]; exact hltI) hls (hGr.trans hG24) (hG24.heap hT) (hG24.heap hRes) (own_gr hown hG24) hap hG6 hG7
      clear hap hG6 hb6 hG7 hG24 hG4 hG3 hT hRes hown hGr cW cH
      go_wp2_with fail
      go_roundw
      case rel => exact hstep
      case measure => simp [intOf]; omega
    · have hkM : k = M := by omega
      subst hkM
      go_wp2_with (first
        | (refine wpList_load_row rfl 43 _ rfl gs rfl 43 _ (0, 0) _ hT Try.underlying43 rfl (by kernel_rfl) ?_)
        | (refine wpList_store_abs rfl rfl w.heap.size 0 43 _ (stepCells X Y WW HH (.slice A1 k c1)) rfl rfl size_step hRes (by simp [stepCells, zeroCells]) (by simp [stepCells, Value.oneCell']) ?_; intro w9 hw9))
      refine bodyPost_ret (v := .agg (stepCells X Y WW HH (.slice A1 k c1)).toArray) (results_cell_row rfl _ _ w.heap.size 43 _ (0, 0) _ rfl (step_res hRes hw9.out) Try.underlying43 rfl (by kernel_rfl)) rfl ?_
      rw [HV1.out, HZ1.out]
      refine ⟨A1, c1, ls, ?_, hls.trans HVZ.out.symm, ?_, step_own hls hown hRes hw9.out, hw9.out ▸ hGr.setRow (Nat.le_refl _) _⟩
      · rw [hls]
      · rw [hls]; exact own_cap hown

theorem atN_bd (l : List Int) (i : Nat) (m : Int) (hm : 0 < m) : 0 ≤ atN l i m ∧ atN l i m < m := by
  unfold atN
  split
  · omega
  · exact ⟨Int.emod_nonneg _ (by omega), Int.emod_lt_of_pos _ hm⟩

/-- What StepOf at kind 4 hands back. -/
def StepPost (w : World) (N : Nat) (e : Ending) (w' : World) : Prop :=
  ∃ (X Y W H : Nat) (A2 : Option Addr) (c2 : Nat) (ls : List Col), e = .returned (.agg (stepCells X Y W H (.slice A2 ls.length c2)).toArray) ∧ 1 ≤ W ∧ 1 ≤ H ∧ W ≤ 4 ∧ H ≤ 4 ∧ X + W ≤ N ∧ Y + H ≤ N ∧ ls.length = W * H ∧ ls.length ≤ c2 ∧ Cols w' A2 ls ∧ Gr w w'

theorem step_any (A : Option Addr) (c D : Nat) (l : List Int) (w : World) (hD : D ≤ 3) (hl : Ints w A l) (hb : ∀ x ∈ l, -9223372036854775808 ≤ x ∧ x ≤ 9223372036854775807) (hlen : l.length ≤ 1000000) :
    Calls Try.prog 14 #[.int .i64 D, .slice A l.length c, .int .i64 4, .int .i64 0] w (StepPost w (sideN D 0)) := by
  have hN := sideN_bd D 0 hD
  obtain ⟨N, hNe⟩ : ∃ N, sideN D 0 = N := ⟨_, rfl⟩
  have hsh := size_shl D 0 hD
  rw [Nat.sub_zero] at hsh
  rw [hNe] at hN hsh ⊢
  have b0 := atN_bd l 0 (N : Int) (by omega)
  have b1 := atN_bd l 1 (N : Int) (by omega)
  obtain ⟨X, hX⟩ := Int.eq_ofNat_of_zero_le b0.1
  obtain ⟨Y, hY⟩ := Int.eq_ofNat_of_zero_le b1.1
  have b2 := atN_bd l 2 (min 4 ((N : Int) - X)) (by omega)
  have b3 := atN_bd l 3 (min 4 ((N : Int) - Y)) (by omega)
  obtain ⟨V, hV⟩ := Int.eq_ofNat_of_zero_le b2.1
  obtain ⟨Z, hZ⟩ := Int.eq_ofNat_of_zero_le b3.1
  refine (step_core A l.length c D N X Y V Z (fun k => atN l (k + 4) 1000) w hD hsh hN.1 hN.2 (by omega) (by omega) (by omega) (by omega) (fun w' => round17u 4 8 w' (by omega) (by omega)) (fun w' hG => ?_) (fun w' hG => ?_) (fun w' hG => ?_) (fun w' hG => ?_) (fun k w' hk hG => ?_) (fun n w' => shade_any n w')).mono ?_
  · have := at_any A c l 0 (N : Int) w' (hl.gr hG) hb hlen (by omega) (by omega) (by omega)
    rwa [hX] at this
  · have := at_any A c l 1 (N : Int) w' (hl.gr hG) hb hlen (by omega) (by omega) (by omega)
    rwa [hY] at this
  · have := at_any A c l 2 (min 4 ((N : Int) - X)) w' (hl.gr hG) hb hlen (by omega) (by omega) (by omega)
    rwa [hV] at this
  · have := at_any A c l 3 (min 4 ((N : Int) - Y)) w' (hl.gr hG) hb hlen (by omega) (by omega) (by omega)
    rwa [hZ] at this
  · exact at_any A c l (k + 4) 1000 w' (hl.gr hG) hb hlen (by omega) (by omega) (by omega)
  · rintro e w' ⟨A2, c2, ls, rfl, hls, hc, hcs, hG⟩
    exact ⟨X, Y, V + 1, Z + 1, A2, c2, ls, rfl, by omega, by omega, by omega, by omega, by omega, by omega, hls, hc, hcs, hG⟩
end Go.Proofs.Ytgcemgknhkgjoaa
