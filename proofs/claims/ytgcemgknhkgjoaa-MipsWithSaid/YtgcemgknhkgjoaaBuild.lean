/-
  Build: the pyramid of a texture.
-/
import Derived.Test.YtgcemgknhkgjoaaBuildL
set_option linter.unusedVariables false
set_option linter.unusedSimpArgs false
namespace Go.Proofs.Ytgcemgknhkgjoaa
open Go Go.RowKit

theorem bs_lev (v : Value) (A : Option Addr) (n c : Nat) (h : v = .slice A n c) : ∀ w' : World, (Instr.buildSlice 72 1 #[(0, v)]).run Try.prog w' = .ok (.slice (some ⟨w'.heap.size, 0, none⟩) 1 1) (w'.alloc (.cells #[v] 24)) := by subst h; intro w'; go_simp

theorem own_base {w : World} {base base' e sz n : Nat} {v : Value} {xs : List Value} (h : w.ownsRow base e sz v n xs) (hb : base' ≤ base) : w.ownsRow base' e sz v n xs := by
  refine ⟨h.1, ?_⟩
  rcases h.2 with hn | ⟨g, cap, cur, e1, e2, rest⟩
  · exact .inl hn
  · exact .inr ⟨g, cap, cur, e1, Nat.le_trans hb e2, rest⟩

theorem build_start {w w2 : World} {D n c1 : Nat} {wrap : Bool} {ts : List Col} {A1 : Option Addr} {cur cur' : Array Value} (hn2 : n ≤ 1024) (hn : n = ts.length) (hG : Gr w w2)
    (hA1 : w2.ownsRow w.heap.size 35 4 (.slice A1 n c1) n (cols ts)) (hT : w2.heap[w.heap.size]? = some (.cells cur 26 (0, 0)))
    (hGW : Gr w (((w2.setRow w.heap.size cur').alloc (.cells #[.slice A1 n c1] 24)).alloc (.cells #[.int .i64 D, .bool wrap, .slice A1 n c1, .slice (some ⟨w2.heap.size, 0, none⟩) 1 1] 74))) :
    BuildInv w (w2.heap.size + 1) D wrap ts 0 (((w2.setRow w.heap.size cur').alloc (.cells #[.slice A1 n c1] 24)).alloc (.cells #[.int .i64 D, .bool wrap, .slice A1 n c1, .slice (some ⟨w2.heap.size, 0, none⟩) 1 1] 74)) := by
  subst hn
  have hrow := (own_setRow (cs := cur') hA1 hT (by decide)).alloc (.cells #[.slice A1 ts.length c1] 24) |>.alloc (.cells #[.int .i64 D, .bool wrap, .slice A1 ts.length c1, .slice (some ⟨w2.heap.size, 0, none⟩) 1 1] 74)
  have e := size_setRow w2 w.heap.size cur'
  have hL := heap_alloc2_old (w2.setRow w.heap.size cur') (.cells #[.slice A1 ts.length c1] 24) (.cells #[.int .i64 D, .bool wrap, .slice A1 ts.length c1, .slice (some ⟨w2.heap.size, 0, none⟩) 1 1] 74)
  have hP := heap_alloc2_new (w2.setRow w.heap.size cur') (.cells #[.slice A1 ts.length c1] 24) (.cells #[.int .i64 D, .bool wrap, .slice A1 ts.length c1, .slice (some ⟨w2.heap.size, 0, none⟩) 1 1] 74)
  rw [e] at hL hP
  refine ⟨A1, c1, some ⟨w2.heap.size, 0, none⟩, 1, [.slice A1 ts.length c1], Nat.zero_le _, hP, ⟨by simp, .inr ⟨w2.heap.size, 1, #[.slice A1 ts.length c1], rfl, hG.size, hL, by omega, by unfold maxLen; omega, by simp, by simp⟩⟩, ?_, hrow, by have := hG.size; omega, hGW⟩
  intro j hj
  have hj0 : j = 0 := by omega
  subst hj0
  exact ⟨A1, c1, rfl, hrow⟩

theorem size_lev : ∀ w : World, (sizeOf 72).run Try.prog w = .ok 1 w := fun _ => by kernel_rfl

theorem coarser_lvl (bk ck D k base : Nat) (ts : List Col) (w : World) (hD : D ≤ 3) (hk : k < D) (hts : ts.length = sideN D 0 * sideN D 0)
    (hown : w.ownsRow base 35 4 (.slice (some ⟨bk, 0, none⟩) (lvl D ts k).length ck) (lvl D ts k).length (cols (lvl D ts k))) :
    Calls Try.prog 32 #[.slice (some ⟨bk, 0, none⟩) (lvl D ts k).length ck, .int .i64 (sideN D k : Int)] w fun e w' =>
      ∃ A c', e = .returned (.slice A (lvl D ts (k + 1)).length c') ∧ w'.ownsRow w.heap.size 35 4 (.slice A (lvl D ts (k + 1)).length c') (lvl D ts (k + 1)).length (cols (lvl D ts (k + 1))) ∧ Gr w w' := by
  have h1 := lvl_length D ts hts (k + 1) hk
  have h0 := lvl_length D ts hts k (by omega)
  have hb := sideN_bd D (k + 1) hD
  have hb0 := sideN_bd D k hD
  have hs := side_succ D k hk
  rw [h1]
  refine (coarser_core bk 0 ck (sideN D k) (sideN D (k + 1)) _ (lvl D ts k) w hs (by omega) (by omega) rfl h0 ?_).mono fun e w' h => h
  intro i x hi j u hj
  have hc := hown.cells (g := bk) rfl _ _ (cols_at hi j u hj)
  rwa [Addr.add_lit] at hc

set_option maxRecDepth 100000 in
set_option maxHeartbeats 2000000 in
theorem build_core (b off c D n : Nat) (ts : List Col) (wrap : Bool) (w : World) (hD : D ≤ 3) (hn : n = ts.length) (hts : ts.length = sideN D 0 * sideN D 0) (hs : Cols w (some ⟨b, off, none⟩) ts) :
    Calls Try.prog 10 #[.agg #[.int .i64 D, .bool wrap, .slice (some ⟨b, off, none⟩) n c]] w (BuildPost w (pyrOf D wrap ts)) := by
  have hN := sideN_bd D 0 hD
  have hNN : sideN D 0 * sideN D 0 ≤ 32 * 32 := Nat.mul_le_mul hN.2 hN.2
  have hn2 : n ≤ 1024 := by omega
  have HS : Hid _ := fun (w' : World) (h : Gr w w') => Cols.gr hs h
  have HM : Hid _ := fun (w' : World) => may_core D n (sideN D 0) c (some ⟨b, off, none⟩) wrap w' hD (size_shl D 0 hD) hN.2 (hn.trans hts)
  have Hn : Hid (n = ts.length) := hn
  have Hts : Hid _ := hts
  clear hs hn hts hN hNN
  go_enter Try.func10, Try.ntmps10
  go_wp2_with (first
    | (go_at_call 28; refine (HM.out _).mono ?_; rintro e w1 ⟨rfl, hG1⟩
       have hT1 := hG1.heap (heap_alloc_new w _)
       have hc10 := row_cell (v := .int .i64 D) hT1 0 rfl
       have hc11 := row_cell (v := .bool wrap) hT1 1 rfl
       have hc12 := row_cell (v := .slice (some ⟨b, off, none⟩) n c) hT1 2 rfl)
    | (go_at_call 31; go_must (refine (clone_cols b off n c (cols ts) _ (by rw [Hn.out]; exact HS.out _ (((Gr.refl w).alloc _).trans hG1)) (cols_one ts) (by omega)).mono ?_); rintro e w2 ⟨A1, c1, rfl, hA1, hG2⟩
       have hT2 := hG2.heap hT1)
    | (refine wpList_store_row rfl rfl w.heap.size 2 26 _ [.slice A1 n c1] rfl rfl size_cols hT2 (by simp) (by simp [Value.oneCell']) ?_
       have hT3 := setRow_at hT2 (splice #[.int .i64 D, .bool wrap, .slice (some ⟨b, off, none⟩) n c] 2 [.slice A1 n c1])
       have hc30 := row_cell (v := .int .i64 D) hT3 0 rfl
       have hc31 := row_cell (v := .bool wrap) hT3 1 rfl
       have hc32 := row_cell (v := .slice A1 n c1) hT3 2 rfl
       have hlt3 := row_lt hT2))
  have hsz2 : w.heap.size < w2.heap.size := hlt3
  have hG02 : Gr w w2 := (((Gr.refl w).alloc _).trans hG1).trans hG2
  have hGW := (((hG02.setRow (Nat.le_refl w.heap.size) (splice #[.int .i64 D, .bool wrap, .slice (some ⟨b, off, none⟩) n c] 2 [.slice A1 n c1])).alloc (.cells #[.slice A1 n c1] 24)).alloc (.cells #[.int .i64 D, .bool wrap, .slice A1 n c1, .slice (some ⟨w2.heap.size, 0, none⟩) 1 1] 74))
  have hinv := build_start hn2 Hn.out hG02 (own_base hA1 (by have := hG1.size; simp at this; omega)) hT2 (cur' := splice #[.int .i64 D, .bool wrap, .slice (some ⟨b, off, none⟩) n c] 2 [.slice A1 n c1]) hGW
  clear hGW hG02 hT3 hc30 hc31 hc32 hT2 hA1 hG2 hc10 hc11 hc12 hT1 hG1 hlt3
  go_loopw [21] (fun i wr => ∃ k : Nat, i = .int .i64 k ∧ BuildInv w (w2.heap.size + 1) D wrap ts k wr) (fun i _ => D - (intOf i).toNat)
  case atStart => exact ⟨0, rfl, hinv⟩
  case round =>
    clear hinv
    generalize w2.heap.size + 1 = g at *
    obtain ⟨k, rfl, A1', c1', A2, c2, lv, hkD, hb, hlv, hl, hA1, hg, hG⟩ := hrel
    by_cases hlt : k < D
    · obtain ⟨L, cap, hv, _, hLlt⟩ := hlv.form (by omega)
      have hA2 : A2 = some ⟨L, 0, none⟩ := by injection hv
      subst hA2
      obtain ⟨Ak, ck, hk1, hk2⟩ := hl k (by omega)
      have hlk := lvl_length D ts Hts.out k (by omega)
      have hsk := sideN_bd D k hD
      have hlpos : 0 < (lvl D ts k).length := by rw [hlk]; exact Nat.mul_pos (by omega) (by omega)
      obtain ⟨bk, capk, hvk, _, _⟩ := hk2.form hlpos
      have hAk : Ak = some ⟨bk, 0, none⟩ := by injection hvk
      subst hAk
      have hcL : wr.cell? ⟨L, k, none⟩ = some (.slice (some ⟨bk, 0, none⟩) (lvl D ts k).length ck) := by
        have hc := hlv.cells (g := L) rfl k _ hk1
        rwa [Addr.add_lit, Nat.zero_add] at hc
      have HL : Hid _ := hl
      have HLV : Hid _ := hlk
      have HV1 : Hid _ := hv
      have HV2 : Hid _ := hvk
      have HK1 : Hid _ := hk1
      clear hl hlk hv hvk hk1 hlpos hsk
      have hkk : (k : Int) < (k : Int) + 1 := by omega
      go_wp2_with fail
      refine wp_region_lex [(0, .p), (1, .p), (2, .p), (3, .p), (4, .t), (5, .p), (6, .p), (7, .p), (8, .t), (9, .p), (10, .p), (11, .t), (12, .p), (13, .p), (14, .t), (15, .s), (16, .s), (17, .s), (18, .p), (19, .p), (20, .s)] [17, 20] (by kernel_rfl) (by kernel_rfl) ?_
      repeat ((refine lexG_p rfl (fun K hK => ?_)); go_simp; (try go_bits); refine hK _ ?_; clear hK K)
      refine lexG_load1 rfl rfl rfl rfl rfl agg_levels (row_cell hb 3 rfl) ?_
      simp only [Act.put, List.setIfInBounds_toArray, List.set_cons_zero, List.set_cons_succ]
      repeat ((refine lexG_p rfl (fun K hK => ?_)); go_simp; (try go_bits); refine hK _ ?_; clear hK K)
      refine lexG_load1 rfl rfl rfl rfl rfl agg_levels (row_cell hb 3 rfl) ?_
      simp only [Act.put, List.setIfInBounds_toArray, List.set_cons_zero, List.set_cons_succ]
      repeat ((refine lexG_p rfl (fun K hK => ?_)); go_simp; (try go_bits); refine hK _ ?_; clear hK K)
      refine lexG_load1 rfl rfl rfl rfl rfl agg_cols hcL ?_
      simp only [Act.put, List.setIfInBounds_toArray, List.set_cons_zero, List.set_cons_succ]
      repeat ((refine lexG_p rfl (fun K hK => ?_)); go_simp; (try go_bits); refine hK _ ?_; clear hK K)
      refine lexG_tx rfl rfl rfl ?_; apply Exists.intro; refine ⟨fun w' hG => ?_, ?_⟩
      · go_simp
        exact gr_of_same (size_core_in g D k w' (row_cell (hG.heap hb) 0 rfl) hD (by omega))
      simp only [Act.put, List.setIfInBounds_toArray, List.set_cons_zero, List.set_cons_succ]
      refine lexG_s rfl (fun w3 hG3 K hK => ?_)
      go_simp
      refine (coarser_lvl bk ck D k w.heap.size ts w3 hD hlt Hts.out (own_gr hk2 hG3)).mono ?_
      rintro e w4 ⟨A3, c3, rfl, hnew, hG4⟩
      refine hK _ _ (fun _ => hG4) ?_
      clear hK K
      refine lexG_row1 rfl rfl rfl 72 (.tmp 39) rfl ety_lev [.slice A3 (lvl D ts (k + 1)).length c3] rfl rfl (bs_lev _ A3 _ c3 rfl) (fun w5 hG5 => ?_)
      simp only [Act.put, List.setIfInBounds_toArray, List.set_cons_zero, List.set_cons_succ]
      refine lexG_app rfl rfl rfl (.tmp 28) (.tmp 40) 72 rfl ety_lev w.heap.size (.slice (some ⟨L, 0, none⟩) (k + 1) c2) (k + 1) lv rfl (some ⟨w5.heap.size, 0, none⟩) 1 1 _ rfl (by simp [Value.oneCell']) (by unfold maxLen; omega) (by omega) ?_ rfl ?_ (Sl.new w5 _ 1 _ 1 rfl) (fun w6 hG6 A4 c4 w7 hap => ?_)
      · have := hG.size; have := hG3.size; have := hG4.size; have := hG5.size; simp; omega
      · intro w6 hG6; exact own_gr (own_gr hlv (((hG3.trans hG4).trans hG5).alloc _)) hG6
      simp only [Act.put, List.setIfInBounds_toArray, List.set_cons_zero, List.set_cons_succ]
      have hG46 : Gr w4 w6 := (hG5.alloc _).trans hG6
      have hG06 : Gr wr w6 := (hG3.trans hG4).trans hG46
      repeat ((refine lexG_p rfl (fun K hK => ?_)); go_simp; (try go_bits); refine hK _ ?_; clear hK K)
      refine lexG_store rfl rfl rfl rfl g 3 74 _ [.slice A4 (k + 1 + 1) c4] rfl rfl size_lev (hap.block (own_gr hlv hG06) (hG06.heap hb) (by decide)) (by simp) (by simp [Value.oneCell']) rfl (fun w8 hG8 hb8 => ?_)
      refine lexG_nil fun w9 hG9 => ?_
      have hstep := build_step hlt (hG06.heap hb) (own_gr hlv hG06) (fun j hj => by obtain ⟨A, c, h1, h2⟩ := HL.out j hj; exact ⟨A, c, h1, own_gr h2 hG06⟩) (own_gr hA1 hG06) hg (hG.trans hG06)
        (own_gr (own_base hnew (by have := hG.size; have := hG3.size; omega)) hG46) hap hG8 hG9
      clear hap hG8 hb8 hG9 hG46 hG06 hG6 hG5 hnew hG4 hG3 hcL hk2 hb hlv hA1 hG
      go_wp2_with fail
      go_roundw
      case rel => exact ⟨k + 1, by go_num, hstep⟩
      case measure => simp [intOf]; omega
    · have hkD' : k = D := by omega
      subst hkD'
      have hp := build_done hD Hts.out ⟨A1', c1', A2, c2, lv, hkD, hb, hlv, hl, hA1, hg, hG⟩
      have HP : Hid _ := hp
      clear hp hl
      go_wp2_with fail
      go_ret2
      exact ⟨g, rfl, HP.out, hG, hg⟩


theorem build_zero (w : World) :
    Calls Try.prog 10 #[.agg #[.int .i64 0, .bool false, .slice none 0 0]] w fun e w' => e = .returned (.tuple #[.pointer none, .int .i64 1]) ∧ Gr w w' := by
  go_enter Try.func10, Try.ntmps10
  go_wp2_with (go_at_call 28; refine (may_zero _).mono ?_; rintro e w1 ⟨rfl, hG1⟩)
  go_ret2
  exact ⟨rfl, ((Gr.refl w).alloc _).trans hG1⟩

theorem build_any (A : Option Addr) (c D : Nat) (ts : List Col) (wrap : Bool) (w : World) (hD : D ≤ 3) (hts : ts.length = sideN D 0 * sideN D 0) (hs : Cols w A ts) :
    Calls Try.prog 10 #[.agg #[.int .i64 D, .bool wrap, .slice A ts.length c]] w (BuildPost w (pyrOf D wrap ts)) := by
  have hN := sideN_bd D 0 hD
  have hpos : 0 < ts.length := by rw [hts]; exact Nat.mul_pos (by omega) (by omega)
  obtain ⟨b, off, rfl, _, _⟩ := Cols.at_ hs hpos
  exact build_core b off c D ts.length ts wrap w hD rfl hts hs
end Go.Proofs.Ytgcemgknhkgjoaa
