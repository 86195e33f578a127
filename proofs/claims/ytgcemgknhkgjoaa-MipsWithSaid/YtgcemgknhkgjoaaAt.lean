/-
  The texel of a pyramid.
-/
import Derived.Test.YtgcemgknhkgjoaaPyr
set_option linter.unusedVariables false
set_option linter.unusedSimpArgs false
namespace Go.Proofs.Ytgcemgknhkgjoaa
open Go Go.RowKit

theorem agg_col : ∀ w : World, (isAgg 35).run Try.prog w = .ok true w := fun _ => by kernel_rfl
theorem size_col : ∀ w : World, (sizeOf 35).run Try.prog w = .ok 4 w := fun _ => by kernel_rfl
theorem agg_levels : ∀ w : World, (isAgg 72).run Try.prog w = .ok false w := fun _ => by kernel_rfl

set_option maxRecDepth 100000 in
set_option maxHeartbeats 1000000 in
theorem at_pyr_core (g L nl cl b off len c l N X Y : Nat) (x y : Int) (k : Col) (w : World)
    (hS : ∀ w', Gr w w' → Calls Try.prog 12 #[.pointer (some ⟨g, 0, none⟩), .int .i64 (l : Int)] w' fun e w'' => e = .returned (.int .i64 (N : Int)) ∧ w' = w'')
    (hX : ∀ w', Gr w w' → Calls Try.prog 33 #[.pointer (some ⟨g, 0, none⟩), .int .i64 x, .int .i64 (N : Int)] w' fun e w'' => e = .returned (.int .i64 (X : Int)) ∧ w' = w'')
    (hY : ∀ w', Gr w w' → Calls Try.prog 33 #[.pointer (some ⟨g, 0, none⟩), .int .i64 y, .int .i64 (N : Int)] w' fun e w'' => e = .returned (.int .i64 (Y : Int)) ∧ w' = w'')
    (hc3 : w.cell? ⟨g, 3, none⟩ = some (.slice (some ⟨L, 0, none⟩) nl cl)) (hl : l < nl) (hcl : w.cell? ⟨L, l, none⟩ = some (.slice (some ⟨b, off, none⟩) len c))
    (hN : 0 < N) (hNb : N ≤ 32) (hXb : X < 32) (hYN : Y * N ≤ 1024) (hlt : Y * N + X < len)
    (hcell : ∀ j u, k.cells[j]? = some u → w.cell? ⟨b, off + (Y * N + X) * 4 + j, none⟩ = some u) :
    Calls Try.prog 13 #[.pointer (some ⟨g, 0, none⟩), .int .i64 (l : Int), .int .i64 x, .int .i64 y] w fun e w' => e = .returned k.val ∧ Gr w w' := by
  have hN0 : ((N : Int) == 0) = false := by simp; omega
  have hgl : g < w.heap.size := World.block_lt_of_cell? w ⟨g, 3, none⟩ hc3
  have hLl : L < w.heap.size := World.block_lt_of_cell? w ⟨L, l, none⟩ hcl
  have hI0 : (0 : Int) ≤ (Y : Int) * (N : Int) + (X : Int) := by have : (0 : Int) ≤ (Y : Int) * (N : Int) := Int.mul_nonneg (by omega) (by omega); omega
  have hI1 : (Y : Int) * (N : Int) + (X : Int) < (len : Int) := by exact_mod_cast hlt
  have HS : Hid _ := hS
  have HX : Hid _ := hX
  have HY : Hid _ := hY
  have HC : Hid _ := hcell
  clear hS hX hY hcell
  go_enter Try.func13, Try.ntmps13
  go_wp2_with (go_at_call 12; refine (HS.out _ ((Gr.refl w).alloc _)).mono ?_; rintro e w' ⟨rfl, rfl⟩)
  refine wp_region_lex [(0, .p), (1, .p), (2, .p), (3, .t), (4, .p), (5, .p), (6, .t), (7, .p), (8, .p), (9, .p), (10, .t), (11, .p), (12, .p), (13, .p), (14, .p), (15, .p), (16, .t), (17, .p), (18, .p), (19, .t), (20, .s)] [20] (by kernel_rfl) (by kernel_rfl) ?_
  repeat ((refine lexG_p rfl (fun K hK => ?_)); go_simp; (try go_bits); refine hK _ ?_; clear hK K)
  refine lexG_load1 rfl rfl rfl rfl rfl agg_levels (by go_simp; rfl) ?_; simp only [Act.put, List.setIfInBounds_toArray, List.set_cons_zero, List.set_cons_succ]
  repeat ((refine lexG_p rfl (fun K hK => ?_)); go_simp; (try go_bits); refine hK _ ?_; clear hK K)
  refine lexG_load1 rfl rfl rfl rfl rfl agg_cols (by go_simp; rfl) ?_; simp only [Act.put, List.setIfInBounds_toArray, List.set_cons_zero, List.set_cons_succ]
  repeat ((refine lexG_p rfl (fun K hK => ?_)); go_simp; (try go_bits); refine hK _ ?_; clear hK K)
  refine lexG_tx rfl rfl rfl ?_; apply Exists.intro; refine ⟨fun w' hG => ?_, ?_⟩
  · go_simp
    exact gr_of_same (HY.out _ (((Gr.refl w).alloc _).trans hG))
  simp only [Act.put, List.setIfInBounds_toArray, List.set_cons_zero, List.set_cons_succ]
  repeat ((refine lexG_p rfl (fun K hK => ?_)); go_simp; (try go_bits); refine hK _ ?_; clear hK K)
  refine lexG_tx rfl rfl rfl ?_; apply Exists.intro; refine ⟨fun w' hG => ?_, ?_⟩
  · go_simp
    exact gr_of_same (HX.out _ (((Gr.refl w).alloc _).trans hG))
  simp only [Act.put, List.setIfInBounds_toArray, List.set_cons_zero, List.set_cons_succ]
  repeat ((refine lexG_p rfl (fun K hK => ?_)); go_simp; (try go_bits); refine hK _ ?_; clear hK K)
  refine lexG_loadn (cs := k.cells) rfl rfl rfl rfl rfl agg_col size_col ?_ ?_
  · intro j u hu; rw [Addr.add_lit]; exact ((Gr.refl w).alloc _).cell (HC.out j u hu)
  simp only [Act.put, List.setIfInBounds_toArray, List.set_cons_zero, List.set_cons_succ]
  refine lexG_store rfl rfl rfl rfl w.heap.size 0 35 _ k.cells rfl rfl size_col (heap_alloc_new w _) (by simp) (by simp [Value.oneCell']) rfl (fun w1 hG hb => ?_)
  refine lexG_nil fun w2 hG2 => ?_
  have hb2 := hG2.heap (setRow_at hb (splice #[Value.int IntKind.u8 0, Value.int IntKind.u8 0, Value.int IntKind.u8 0, Value.int IntKind.u8 0] 0 k.cells))
  go_wp2
  refine bodyPost_ret (v := k.val) (results_cell_row rfl _ _ w.heap.size 35 _ (0, 0) _ rfl hb2 Try.underlying35 rfl (by kernel_rfl)) rfl ⟨rfl, ?_⟩
  exact ((((Gr.refl w).alloc _).trans hG).setRow (Nat.le_refl _) _).trans hG2

set_option maxRecDepth 100000 in
theorem at_pyr_zero (g : Nat) (l x y : Int) (w : World)
    (hS : ∀ w', Gr w w' → Calls Try.prog 12 #[.pointer (some ⟨g, 0, none⟩), .int .i64 l] w' fun e w'' => e = .returned (.int .i64 0) ∧ w' = w'') :
    Calls Try.prog 13 #[.pointer (some ⟨g, 0, none⟩), .int .i64 l, .int .i64 x, .int .i64 y] w fun e w' => e = .returned Col.zero.val ∧ Gr w w' := by
  have HS : Hid _ := hS
  clear hS
  go_enter Try.func13, Try.ntmps13
  go_wp2_with (go_at_call 12; refine (HS.out _ ((Gr.refl w).alloc _)).mono ?_; rintro e w' ⟨rfl, rfl⟩)
  refine bodyPost_ret (v := Col.zero.val) ?_ rfl ⟨rfl, (Gr.refl w).alloc _⟩
  simp [results, Try.results13, go_sem, Col.zero]

theorem at_pyr (g : Nat) (p : Pyr) (l x y : Int) (w : World) (h : IsPyr w g p) (hx1 : -9223372036854775808 ≤ x) (hx2 : x ≤ 9223372036854775807) (hy1 : -9223372036854775808 ≤ y) (hy2 : y ≤ 9223372036854775807) :
    Calls Try.prog 13 #[.pointer (some ⟨g, 0, none⟩), .int .i64 l, .int .i64 x, .int .i64 y] w fun e w' => e = .returned (p.at l x y).val ∧ Gr w w' := by
  have hS : ∀ w', Gr w w' → Calls Try.prog 12 #[.pointer (some ⟨g, 0, none⟩), .int .i64 l] w' fun e w'' => e = .returned (.int .i64 (p.size l)) ∧ w' = w'' := fun w' hG => size_any g p l w' (h.gr hG)
  unfold Pyr.at
  unfold Pyr.size at hS
  by_cases hl : 0 ≤ l ∧ l ≤ p.d
  · rw [if_pos hl]
    obtain ⟨n, rfl⟩ := Int.eq_ofNat_of_zero_le hl.1
    simp only [if_pos hl, Int.toNat_natCast] at hS ⊢
    have hN := sideN_bd p.d n h.hd
    obtain ⟨A, c, L, cl, t, hb, ht, hL, hlev, hA⟩ := h.mem
    have hn : n < p.lev.length := by rw [h.hlen]; omega
    have hln : p.lev[n]? = some p.lev[n] := List.getElem?_eq_getElem hn
    obtain ⟨Ai, ci, hci, hcs⟩ := hlev n _ hln
    have hsz := h.hsz n _ hln
    have hX := addr_bd p x (sideN p.d n) (by omega)
    have hY := addr_bd p y (sideN p.d n) (by omega)
    obtain ⟨X, hXe⟩ := Int.eq_ofNat_of_zero_le hX.1
    obtain ⟨Y, hYe⟩ := Int.eq_ofNat_of_zero_le hY.1
    have hX2 : X < sideN p.d n := by omega
    have hY2 : Y < sideN p.d n := by omega
    have hYN : Y * sideN p.d n + sideN p.d n ≤ sideN p.d n * sideN p.d n := by
      have : (Y + 1) * sideN p.d n ≤ sideN p.d n * sideN p.d n := Nat.mul_le_mul_right _ hY2
      rwa [Nat.add_mul, Nat.one_mul] at this
    have hNN : sideN p.d n * sideN p.d n ≤ 1024 := Nat.mul_le_mul hN.2 hN.2
    have hlt : Y * sideN p.d n + X < p.lev[n].length := by rw [hsz]; omega
    obtain ⟨b, off, rfl, hbw, hcell⟩ := hcs.at_ (k := 0) (by omega)
    have hk : (p.lev.getD n []).getD (p.addr y (sideN p.d n) * sideN p.d n + p.addr x (sideN p.d n)).toNat Col.zero = p.lev[n][Y * sideN p.d n + X] := by
      have e1 : (p.addr y (sideN p.d n) * sideN p.d n + p.addr x (sideN p.d n)).toNat = Y * sideN p.d n + X := by
        rw [hXe, hYe]
        have : ((Y : Int) * (sideN p.d n : Int) + (X : Int)) = ((Y * sideN p.d n + X : Nat) : Int) := by simp
        rw [this, Int.toNat_natCast]
      rw [e1]
      simp [List.getD, hln, List.getElem?_eq_getElem hlt]
    rw [hk]
    exact at_pyr_core g L (p.d + 1) cl b off _ ci n (sideN p.d n) X Y x y _ w hS
      (fun w' hG => by have := address_any g p x (sideN p.d n) w' (h.gr hG) (by omega) (by omega) hx1 hx2; rwa [hXe] at this)
      (fun w' hG => by have := address_any g p y (sideN p.d n) w' (h.gr hG) (by omega) (by omega) hy1 hy2; rwa [hYe] at this)
      (row_cell hb 3 rfl) (by omega) hci (by omega) (by omega) (by omega) (by omega) hlt
      (fun j u hu => by have := hcell _ _ (List.getElem?_eq_getElem hlt) j u hu; rwa [← Nat.add_assoc] at this)
  · rw [if_neg hl]
    simp only [if_neg hl] at hS
    exact at_pyr_zero g l x y w hS
end Go.Proofs.Ytgcemgknhkgjoaa
