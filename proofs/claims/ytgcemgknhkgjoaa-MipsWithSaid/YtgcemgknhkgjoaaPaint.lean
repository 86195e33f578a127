/-
  A texture of some numbers.
-/
import Derived.Test.YtgcemgknhkgjoaaAt
import Derived.Test.YtgcemgknhkgjoaaApp
set_option linter.unusedVariables false
set_option linter.unusedSimpArgs false
namespace Go.Proofs.Ytgcemgknhkgjoaa
open Go Go.RowKit

theorem ety_col : ElemTy Try.prog 24 35 4 4 := by
  have h : (Try.prog.info? 35).map (fun i => (i.zero, i.size, i.bytes)) = some (some (.agg #[.int .u8 0, .int .u8 0, .int .u8 0, .int .u8 0]), 4, 4) := by kernel_rfl
  obtain ⟨i, h1, h2, h3, h4⟩ := info_parts h
  exact ⟨Try.underlying24, by omega, i, _, h1, h2, h3, h4, rfl⟩


theorem bs_col (cs : Col) : ∀ w' : World, (Instr.buildSlice 24 1 #[(0, cs.val)]).run Try.prog w' = .ok (.slice (some ⟨w'.heap.size, 0, none⟩) 1 1) (w'.alloc (.cells cs.cells.toArray 35)) := fun _ => by kernel_rfl

def PaintInv (w : World) (D N : Nat) (wrap : Bool) (i : Value) (wr : World) : Prop :=
  ∃ (k : Nat) (ls : List Col) (A : Option Addr) (c : Nat), k ≤ N * N ∧ i = .int .i64 k ∧ ls.length = k ∧
    wr.heap[w.heap.size + 1]? = some (.cells #[.int .i64 D, .bool wrap, .slice A k c] 26 (0, 0)) ∧
    wr.heap[w.heap.size]? = some (.cells #[.int .i64 0, .bool false, .slice none 0 0] 26 (0, 0)) ∧
    wr.ownsRow w.heap.size 35 4 (.slice A k c) k (cols ls) ∧ Gr w wr

theorem agg_tex : ∀ w : World, (isAgg 26).run Try.prog w = .ok true w := fun _ => by kernel_rfl
theorem size_tex : ∀ w : World, (sizeOf 26).run Try.prog w = .ok 3 w := fun _ => by kernel_rfl
theorem size_cols : ∀ w : World, (sizeOf 24).run Try.prog w = .ok 1 w := fun _ => by kernel_rfl

/-- What Paint hands back. -/
def PaintPost (w : World) (D N : Nat) (wrap : Bool) (e : Ending) (w' : World) : Prop :=
  ∃ (ls : List Col) (A : Option Addr) (c : Nat), e = .returned (.agg #[.int .i64 D, .bool wrap, .slice A (N * N) c]) ∧ ls.length = N * N ∧ Cols w' A ls ∧ Gr w w'


theorem col_of (a b c d : Int) (ha : 0 ≤ a ∧ a ≤ 255) (hb : 0 ≤ b ∧ b ≤ 255) (hc : 0 ≤ c ∧ c ≤ 255) (hd : 0 ≤ d ∧ d ≤ 255) :
    ([.int .u8 a, .int .u8 b, .int .u8 c, .int .u8 d] : List Value) = Col.cells ⟨b8 a, b8 b, b8 c, b8 d⟩ := by
  simp only [Col.cells, toNat_b8]
  rw [Int.emod_eq_of_lt ha.1 (by omega), Int.emod_eq_of_lt hb.1 (by omega), Int.emod_eq_of_lt hc.1 (by omega), Int.emod_eq_of_lt hd.1 (by omega)]

theorem cols_snoc (ls : List Col) (x : Col) : cols (ls ++ [x]) = cols ls ++ x.cells := by simp [cols]

theorem paint_step {w w4 w5 w6 w7 : World} {D N k c c2 : Nat} {wrap : Bool} {ls : List Col} {x : Col} {A A2 : Option Addr} (hk : k < N * N) (hls : ls.length = k) (hG4 : Gr w w4)
    (hT : w4.heap[w.heap.size + 1]? = some (.cells #[.int .i64 D, .bool wrap, .slice A k c] 26 (0, 0)))
    (hRes : w4.heap[w.heap.size]? = some (.cells #[.int .i64 0, .bool false, .slice none 0 0] 26 (0, 0)))
    (hown : w4.ownsRow w.heap.size 35 4 (.slice A k c) k (cols ls))
    (hap : Appd w4 w5 w.heap.size 35 4 (.slice A k c) A2 (k + 1) c2 (cols ls ++ x.cells)) (hG6 : Gr w5 w6)
    (hG7 : Gr (w6.setRow (w.heap.size + 1) (splice #[.int .i64 D, .bool wrap, .slice A k c] 2 [.slice A2 (k + 1) c2])) w7) : PaintInv w D N wrap (.int .i64 ((k : Int) + 1)) w7 := by
  have hT5 := hap.block hown hT (by decide)
  have hR5 := hap.block hown hRes (by decide)
  have hT6 := hG6.heap hT5
  have hR6 := hG6.heap hR5
  have hG5 : Gr w w5 := hap.gr hown hG4 (Nat.le_refl _)
  refine ⟨k + 1, ls ++ [x], A2, c2, hk, rfl, by simp [hls], hG7.heap (setRow_at hT6 _), ?_, ?_, ?_⟩
  · exact hG7.heap ((setRow_else (by omega) _).trans hR6)
  · rw [cols_snoc]
    exact own_gr (own_setRow (own_gr hap.own hG6) hT6 (by decide)) hG7
  · exact ((hG5.trans hG6).setRow (by omega) _).trans hG7

set_option maxRecDepth 100000 in
set_option maxHeartbeats 2000000 in
theorem paint_core (A : Option Addr) (c : Nat) (l : List Int) (d : Int) (D N : Nat) (kind : Int) (wrap : Bool) (w : World) (hl : Ints w A l)
    (hR : ∀ w', Gr w w' → Calls Try.prog 11 #[.int .i64 d, .int .i64 4] w' fun e w'' => e = .returned (.int .i64 (D : Int)) ∧ w' = w'') (hD : D ≤ 3)
    (hK : ∀ w', Gr w w' → Calls Try.prog 29 #[.slice A l.length c, .int .i64 0, .int .i64 4] w' fun e w'' => e = .returned (.int .i64 kind) ∧ Gr w' w'')
    (hAt : ∀ (k : Nat) w', k ≤ 1024 → Gr w w' → Calls Try.prog 29 #[.slice A l.length c, .int .i64 (k : Int), .int .i64 1000] w' fun e w'' => e = .returned (.int .i64 (atN l k 1000)) ∧ Gr w' w'')
    (hSh : ∀ (n : Int) w', Calls Try.prog 30 #[.int .i64 n] w' fun e w'' => e = .returned (shade n).val ∧ Gr w' w'')
    (hN : wrap64 (4 * 2 ^ D) = (N : Int)) (hN1 : 4 ≤ N) (hN2 : N ≤ 32) (hkind : kind = 0 ∨ kind = 1 ∨ kind = 2 ∨ kind = 3) :
    Calls Try.prog 9 #[.int .i64 d, .bool wrap, .slice A l.length c] w (PaintPost w D N wrap) := by
  have hNN : (N : Int) * (N : Int) ≤ 1024 := by have : N * N ≤ 32 * 32 := Nat.mul_le_mul hN2 hN2; exact_mod_cast this
  have hNN0 : (0 : Int) ≤ (N : Int) * (N : Int) := Int.mul_nonneg (by omega) (by omega)
  have HR : Hid _ := hR
  have HK : Hid _ := hK
  have HN : Hid _ := hN
  have HAt : Hid _ := hAt
  have HSh : Hid _ := hSh
  clear hR hK hN hAt hSh
  have HL : Hid (Ints w A l) := hl
  clear hl
  generalize hll : l.length = ll at *
  clear hll
  go_enter Try.func9, Try.ntmps9
  go_wp2_with (first
    | (go_at_call 11; refine (HR.out _ (by first | exact (Gr.refl w).alloc _)).mono ?_; rintro e w' ⟨rfl, rfl⟩)
    | (go_at_call 29; refine (HK.out _ (by first | exact ((Gr.refl w).alloc _).alloc _)).mono ?_; rintro e w1 ⟨rfl, hG1⟩))
  rw [HN.out]
  have hb0 := hG1.heap (heap_alloc2_new w _ _)
  have hb1 := hG1.heap (heap_alloc2_old w _ _)
  have hG : Gr w w1 := (((Gr.refl w).alloc _).alloc _).trans hG1
  clear hG1
  go_loopw [10] (fun i wr => PaintInv w D N wrap i wr) (fun i _ => N * N - (intOf i).toNat)
  case atStart => exact ⟨0, [], none, 0, Nat.zero_le _, rfl, rfl, hb0, hb1, World.ownsRow_nil _ _ _ _, hG⟩
  case round =>
    obtain ⟨k, ls, A1, c1, hk, rfl, hls, hT, hRes, hown, hGr⟩ := hrel
    clear hb0 hb1 hG
    by_cases hlt : k < N * N
    · have hltI : (k : Int) < (N : Int) * (N : Int) := by exact_mod_cast hlt
      have hk1024 : k ≤ 1024 := by omega
      have hN0 : ¬ (N = 0) := by omega
      go_wp2_with fail
      refine wp_region_lex [(0, .p), (1, .p), (2, .p), (3, .p), (4, .p), (5, .p), (6, .p), (7, .p)] [] (by kernel_rfl) (by kernel_rfl) ?_
      repeat ((refine lexG_p rfl (fun K hK => ?_)); go_simp; (try go_bits); refine hK _ ?_; clear hK K)
      refine lexG_nil fun w2 hG2 => ?_
      have hT2 := hG2.heap hT
      have hRes2 := hG2.heap hRes
      have hown2 := own_gr hown hG2
      have hGr2 := hGr.trans hG2
      clear hT hRes hown hGr hG2
      rcases hkind with rfl | rfl | rfl | rfl
      · go_wp2_with fail
        refine wp_region_lex [(0, .p), (1, .t), (2, .p), (3, .p), (4, .t), (5, .t), (6, .s), (7, .s), (8, .p), (9, .s)] [7, 9] (by kernel_rfl) (by kernel_rfl) ?_
        repeat ((refine lexG_p rfl (fun K hK => ?_)); go_simp; (try go_bits); refine hK _ ?_; clear hK K)
        refine lexG_load1 rfl rfl rfl rfl rfl agg_cols (row_cell hT2 2 rfl) ?_
        simp only [Act.put, List.setIfInBounds_toArray, List.set_cons_zero, List.set_cons_succ]
        repeat ((refine lexG_p rfl (fun K hK => ?_)); go_simp; (try go_bits); refine hK _ ?_; clear hK K)
        refine lexG_tx rfl rfl rfl ?_; apply Exists.intro; refine ⟨fun w' hG => ?_, ?_⟩
        · go_simp
          exact HAt.out k _ hk1024 (hGr2.trans hG)
        simp only [Act.put, List.setIfInBounds_toArray, List.set_cons_zero, List.set_cons_succ]
        repeat ((refine lexG_p rfl (fun K hK => ?_)); go_simp; (try go_bits); refine hK _ ?_; clear hK K)
        refine lexG_tx rfl rfl rfl ?_; apply Exists.intro; refine ⟨fun w' hG => ?_, ?_⟩
        · go_simp
          exact HSh.out _ _
        simp only [Act.put, List.setIfInBounds_toArray, List.set_cons_zero, List.set_cons_succ]
        repeat ((refine lexG_p rfl (fun K hK => ?_)); go_simp; (try go_bits); refine hK _ ?_; clear hK K)
        refine lexG_row1 rfl rfl rfl 24 (.tmp 49) rfl ety_col (Col.cells _) rfl rfl (bs_col _) (fun w3 hG3 => ?_)
        simp only [Act.put, List.setIfInBounds_toArray, List.set_cons_zero, List.set_cons_succ]
        refine lexG_app rfl rfl rfl (.tmp 45) (.tmp 50) 24 rfl ety_col w.heap.size (.slice A1 k c1) k (cols ls) rfl (some ⟨w3.heap.size, 0, none⟩) 1 1 _ rfl (by simp [Value.oneCell']) (by unfold maxLen; omega) (by omega) ?_ rfl ?_ (Sl.new w3 _ 4 _ 1 rfl) (fun w4 hG4 A2 c2 w5 hap => ?_)
        · have := hGr2.size; have := hG3.size; simp; omega
        · intro w4 hG4; exact own_gr (own_gr hown2 (hG3.alloc _)) hG4
        simp only [Act.put, List.setIfInBounds_toArray, List.set_cons_zero, List.set_cons_succ]
        have hG24 : Gr w2 w4 := (hG3.alloc _).trans hG4
        repeat ((refine lexG_p rfl (fun K hK => ?_)); go_simp; (try go_bits); refine hK _ ?_; clear hK K)
        refine lexG_store rfl rfl rfl rfl (w.heap.size + 1) 2 26 _ [.slice A2 (k + 1) c2] rfl rfl size_cols (hap.block (own_gr hown2 hG24) (hG24.heap hT2) (by decide)) (by simp) (by simp [Value.oneCell']) rfl (fun w6 hG6 hb6 => ?_)
        refine lexG_nil fun w7 hG7 => ?_
        have hstep := paint_step hlt hls (hGr2.trans hG24) (hG24.heap hT2) (hG24.heap hRes2) (own_gr hown2 hG24) hap hG6 hG7
        clear hap hG6 hb6 hG7 hG24 hG4 hG3 hT2 hRes2 hown2 hGr2
        go_wp2_with fail
        go_roundw
        case rel => exact hstep
        case measure => simp [intOf]; omega
      · go_wp2_with fail
        refine wp_region_lex [(0, .p), (1, .t), (2, .p), (3, .p), (4, .p), (5, .p), (6, .p), (7, .p), (8, .t), (9, .s), (10, .s), (11, .p), (12, .s)] [10, 12] (by kernel_rfl) (by kernel_rfl) ?_
        repeat ((refine lexG_p rfl (fun K hK => ?_)); go_simp; (try go_bits); refine hK _ ?_; clear hK K)
        refine lexG_load1 rfl rfl rfl rfl rfl agg_cols (row_cell hT2 2 rfl) ?_
        simp only [Act.put, List.setIfInBounds_toArray, List.set_cons_zero, List.set_cons_succ]
        repeat ((refine lexG_p rfl (fun K hK => ?_)); go_simp; (try go_bits); refine hK _ ?_; clear hK K)
        refine lexG_tx rfl rfl rfl ?_; apply Exists.intro; refine ⟨fun w' hG => ?_, ?_⟩
        · go_simp
          exact HSh.out _ _
        simp only [Act.put, List.setIfInBounds_toArray, List.set_cons_zero, List.set_cons_succ]
        repeat ((refine lexG_p rfl (fun K hK => ?_)); go_simp; (try go_bits); refine hK _ ?_; clear hK K)
        refine lexG_row1 rfl rfl rfl 24 (.tmp 63) rfl ety_col (Col.cells _) rfl rfl (bs_col _) (fun w3 hG3 => ?_)
        simp only [Act.put, List.setIfInBounds_toArray, List.set_cons_zero, List.set_cons_succ]
        refine lexG_app rfl rfl rfl (.tmp 56) (.tmp 64) 24 rfl ety_col w.heap.size (.slice A1 k c1) k (cols ls) rfl (some ⟨w3.heap.size, 0, none⟩) 1 1 _ rfl (by simp [Value.oneCell']) (by unfold maxLen; omega) (by omega) ?_ rfl ?_ (Sl.new w3 _ 4 _ 1 rfl) (fun w4 hG4 A2 c2 w5 hap => ?_)
        · have := hGr2.size; have := hG3.size; simp; omega
        · intro w4 hG4; exact own_gr (own_gr hown2 (hG3.alloc _)) hG4
        simp only [Act.put, List.setIfInBounds_toArray, List.set_cons_zero, List.set_cons_succ]
        have hG24 : Gr w2 w4 := (hG3.alloc _).trans hG4
        repeat ((refine lexG_p rfl (fun K hK => ?_)); go_simp; (try go_bits); refine hK _ ?_; clear hK K)
        refine lexG_store rfl rfl rfl rfl (w.heap.size + 1) 2 26 _ [.slice A2 (k + 1) c2] rfl rfl size_cols (hap.block (own_gr hown2 hG24) (hG24.heap hT2) (by decide)) (by simp) (by simp [Value.oneCell']) rfl (fun w6 hG6 hb6 => ?_)
        refine lexG_nil fun w7 hG7 => ?_
        have hstep := paint_step hlt hls (hGr2.trans hG24) (hG24.heap hT2) (hG24.heap hRes2) (own_gr hown2 hG24) hap hG6 hG7
        clear hap hG6 hb6 hG7 hG24 hG4 hG3 hT2 hRes2 hown2 hGr2
        go_wp2_with fail
        go_roundw
        case rel => exact hstep
        case measure => simp [intOf]; omega
      · have hc2 := row_cell hT2 2 rfl
        have hqN0 : (0 : Int) ≤ (k : Int) / (N : Int) := Int.ediv_nonneg (by omega) (by omega)
        have hqN1 : (k : Int) / (N : Int) ≤ (k : Int) := Int.ediv_le_self _ (by omega)
        have hmN0 : (0 : Int) ≤ (k : Int) % (N : Int) := Int.emod_nonneg _ (by omega)
        have hmN1 : (k : Int) % (N : Int) < (N : Int) := Int.emod_lt_of_pos _ (by omega)
        go_wp2_with (first
          | (at_builtin; refine wpList_app rfl (.tmp 70) (.tmp 82) 24 rfl ety_col w.heap.size (.slice A1 k c1) k (cols ls) rfl (own_gr hown2 ((Gr.refl w2).alloc _)) (some ⟨w2.heap.size, 0, none⟩) 1 1 _ rfl (Sl.new w2 _ 4 _ 1 rfl) (by simp [Value.oneCell']) (by unfold maxLen; omega) (by omega) (by have := hGr2.size; simp; omega) (fun A2 c2 w5 hap => ?_))
          | (refine wpList_store_row rfl rfl (w.heap.size + 1) 2 26 _ [.slice A2 (k + 1) c2] rfl rfl size_cols (hap.block (own_gr hown2 ((Gr.refl w2).alloc _)) (((Gr.refl w2).alloc _).heap hT2) (by decide)) (by simp) (by simp [Value.oneCell']) ?_))
        rw [col_of _ _ _ _ (by omega) (by omega) (by omega) (by omega)] at hap
        have hstep := paint_step hlt hls (hGr2.trans ((Gr.refl w2).alloc _)) (((Gr.refl w2).alloc _).heap hT2) (((Gr.refl w2).alloc _).heap hRes2) (own_gr hown2 ((Gr.refl w2).alloc _)) hap (Gr.refl _) (Gr.refl _)
        go_roundw
        case rel => exact hstep
        case measure => simp [intOf]; omega
      · go_wp2_with fail
        refine wp_region_lex [(0, .p), (1, .t), (2, .t), (3, .s), (4, .s), (5, .p), (6, .s)] [4, 6] (by kernel_rfl) (by kernel_rfl) ?_
        repeat ((refine lexG_p rfl (fun K hK => ?_)); go_simp; (try go_bits); refine hK _ ?_; clear hK K)
        refine lexG_load1 rfl rfl rfl rfl rfl agg_cols (row_cell hT2 2 rfl) ?_
        simp only [Act.put, List.setIfInBounds_toArray, List.set_cons_zero, List.set_cons_succ]
        repeat ((refine lexG_p rfl (fun K hK => ?_)); go_simp; (try go_bits); refine hK _ ?_; clear hK K)
        refine lexG_tx rfl rfl rfl ?_; apply Exists.intro; refine ⟨fun w' hG => ?_, ?_⟩
        · go_simp
          exact HSh.out _ _
        simp only [Act.put, List.setIfInBounds_toArray, List.set_cons_zero, List.set_cons_succ]
        repeat ((refine lexG_p rfl (fun K hK => ?_)); go_simp; (try go_bits); refine hK _ ?_; clear hK K)
        refine lexG_row1 rfl rfl rfl 24 (.tmp 38) rfl ety_col (Col.cells _) rfl rfl (bs_col _) (fun w3 hG3 => ?_)
        simp only [Act.put, List.setIfInBounds_toArray, List.set_cons_zero, List.set_cons_succ]
        refine lexG_app rfl rfl rfl (.tmp 37) (.tmp 39) 24 rfl ety_col w.heap.size (.slice A1 k c1) k (cols ls) rfl (some ⟨w3.heap.size, 0, none⟩) 1 1 _ rfl (by simp [Value.oneCell']) (by unfold maxLen; omega) (by omega) ?_ rfl ?_ (Sl.new w3 _ 4 _ 1 rfl) (fun w4 hG4 A2 c2 w5 hap => ?_)
        · have := hGr2.size; have := hG3.size; simp; omega
        · intro w4 hG4; exact own_gr (own_gr hown2 (hG3.alloc _)) hG4
        simp only [Act.put, List.setIfInBounds_toArray, List.set_cons_zero, List.set_cons_succ]
        have hG24 : Gr w2 w4 := (hG3.alloc _).trans hG4
        repeat ((refine lexG_p rfl (fun K hK => ?_)); go_simp; (try go_bits); refine hK _ ?_; clear hK K)
        refine lexG_store rfl rfl rfl rfl (w.heap.size + 1) 2 26 _ [.slice A2 (k + 1) c2] rfl rfl size_cols (hap.block (own_gr hown2 hG24) (hG24.heap hT2) (by decide)) (by simp) (by simp [Value.oneCell']) rfl (fun w6 hG6 hb6 => ?_)
        refine lexG_nil fun w7 hG7 => ?_
        have hstep := paint_step hlt hls (hGr2.trans hG24) (hG24.heap hT2) (hG24.heap hRes2) (own_gr hown2 hG24) hap hG6 hG7
        clear hap hG6 hb6 hG7 hG24 hG4 hG3 hT2 hRes2 hown2 hGr2
        go_wp2_with fail
        go_roundw
        case rel => exact hstep
        case measure => simp [intOf]; omega
    · have hge : ¬ ((k : Int) < (N : Int) * (N : Int)) := by intro h; exact hlt (by exact_mod_cast h)
      have hkN : k = N * N := by omega
      subst hkN
      go_wp2_with (first
        | (refine wpList_load_row rfl 26 _ rfl (w.heap.size + 1) rfl 26 _ (0, 0) _ hT Try.underlying26 rfl (by kernel_rfl) ?_)
        | (refine wpList_store_row rfl rfl w.heap.size 0 26 _ [.int .i64 D, .bool wrap, .slice A1 (N * N) c1] rfl rfl size_tex hRes (by simp) (by simp [Value.oneCell']) ?_))
      refine bodyPost_ret (v := .agg #[.int .i64 D, .bool wrap, .slice A1 (N * N) c1]) (results_cell_row rfl _ _ w.heap.size 26 _ (0, 0) _ rfl (setRow_at hRes _) Try.underlying26 rfl (by kernel_rfl)) rfl ?_
      refine ⟨ls, A1, c1, rfl, hls, ?_, hGr.setRow (Nat.le_refl _) _⟩
      have ho := own_setRow (cs := splice #[.int .i64 0, .bool false, .slice none 0 0] 0 [.int .i64 D, .bool wrap, .slice A1 (N * N) c1]) hown hRes (by decide)
      have hs := Sl.of_own ho
      unfold Cols
      rw [hls]
      exact hs

theorem paint_any (A : Option Addr) (c : Nat) (l : List Int) (d : Int) (wrap : Bool) (w : World) (hl : Ints w A l) (hb : ∀ x ∈ l, -9223372036854775808 ≤ x ∧ x ≤ 9223372036854775807) (hlen : l.length ≤ 1000000) :
    Calls Try.prog 9 #[.int .i64 d, .bool wrap, .slice A l.length c] w (PaintPost w (d % 4).toNat (sideN (d % 4).toNat 0) wrap) := by
  have h0 : 0 ≤ d % 4 := by omega
  have hD : (d % 4).toNat ≤ 3 := by omega
  have hN := sideN_bd (d % 4).toNat 0 hD
  have hk : atN l 0 4 = 0 ∨ atN l 0 4 = 1 ∨ atN l 0 4 = 2 ∨ atN l 0 4 = 3 := by
    unfold atN
    split
    · exact .inl rfl
    · omega
  refine paint_core A c l d (d % 4).toNat (sideN (d % 4).toNat 0) (atN l 0 4) wrap w hl
    (fun w' _ => by have := round17u d 4 w' (by omega) (by omega); rwa [← Int.toNat_of_nonneg h0] at this) hD
    (fun w' hG => at_any A c l 0 4 w' (hl.gr hG) hb hlen (by omega) (by omega) (by omega))
    (fun k w' hk hG => at_any A c l k 1000 w' (hl.gr hG) hb hlen (by omega) (by omega) (by omega))
    (fun n w' => shade_any n w') (size_shl _ 0 hD) hN.1 hN.2 hk
end Go.Proofs.Ytgcemgknhkgjoaa
