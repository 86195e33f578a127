/-
  What the document fixes of a pyramid (chapter 14): it is so.
-/
import Derived.Test.YtgcemgknhkgjoaaWith
set_option linter.unusedVariables false
set_option linter.unusedSimpArgs false
namespace Go.Proofs.Ytgcemgknhkgjoaa
open Go Go.RowKit

theorem aw_wrap (ts : List Col) : (pyrOf 1 true ts).at 0 (-1) 8 = (pyrOf 1 true ts).at 0 7 0 := by
  simp [Pyr.at, pyrOf, Pyr.addr, sideN]
theorem aw_mean (ts : List Col) : (pyrOf 1 true ts).at 1 0 0 = Col.mean ((pyrOf 1 true ts).at 0 0 0) ((pyrOf 1 true ts).at 0 1 0) ((pyrOf 1 true ts).at 0 0 1) ((pyrOf 1 true ts).at 0 1 1) := by rfl
theorem aw_new (ts : List Col) (c : Col) (h : ts.length = 64) : (pyrOf 1 true (withRows ts 8 1 1 1 [c] 1)).at 0 1 1 = c := by
  have e : (pyrOf 1 true (withRows ts 8 1 1 1 [c] 1)).at 0 1 1 = (withRows ts 8 1 1 1 [c] 1).getD 9 Col.zero := by rfl
  rw [e]
  simp [withRows, withRow, List.getD, h]

theorem paint_aw (A : Option Addr) (c : Nat) (w : World) (hl : Ints w A [2]) : Calls Try.prog 9 #[.int .i64 1, .bool true, .slice A 1 c] w (PaintPost w 1 8 true) :=
  paint_any A c [2] 1 true w hl (by simp) (by simp)

theorem build_aw (A : Option Addr) (c : Nat) (ts : List Col) (w : World) (hts : ts.length = 64) (hs : Cols w A ts) :
    Calls Try.prog 10 #[.agg #[.int .i64 1, .bool true, .slice A 64 c]] w (BuildPost w (pyrOf 1 true ts)) := by
  have := build_any A c 1 ts true w (by omega) hts hs
  rw [hts] at this
  exact this

theorem with_aw (g : Nat) (ts : List Col) (B : Option Addr) (k : Col) (w : World) (hp : IsPyr w g (pyrOf 1 true ts)) (hl : Cols w B [k]) :
    Calls Try.prog 15 #[.pointer (some ⟨g, 0, none⟩), .int .i64 1, .int .i64 1, .int .i64 1, .int .i64 1, .slice B 1 1] w (BuildPost w (pyrOf 1 true (withRows ts 8 1 1 1 [k] 1))) :=
  with_any g (pyrOf 1 true ts) ts 1 1 1 1 1 B [k] w hp rfl hl rfl (by simp) (by omega) (by omega) (by show 1 + 1 ≤ sideN 1 0; decide) (by show 1 + 1 ≤ sideN 1 0; decide)

theorem may_aw (A : Option Addr) (c : Nat) (w : World) : Calls Try.prog 28 #[.agg #[.int .i64 1, .bool true, .slice A 64 c]] w fun e w' => e = .returned (.bool true) ∧ Gr w w' :=
  may_core 1 64 8 c A true w (by omega) (by simp [wrap64]) (by omega) rfl

theorem same_aw (A B : Option Addr) (c1 c2 : Nat) (ts : List Col) (w : World) (hts : ts.length = 64) (hA : Cols w A ts) (hB : Cols w B ts) :
    Calls Try.prog 16 #[.agg #[.int .i64 1, .bool true, .slice A 64 c1], .agg #[.int .i64 1, .bool true, .slice B 64 c2]] w fun e w' => e = .returned (.bool true) ∧ Gr w w' := by
  have := sameTex_core A B c1 c2 1 true ts ts w hA hB rfl (by omega)
  rw [hts] at this
  simpa using this

theorem texture_aw (g : Nat) (ts : List Col) (w : World) (hp : IsPyr w g (pyrOf 1 true ts)) (hts : ts.length = 64) :
    Calls Try.prog 17 #[.pointer (some ⟨g, 0, none⟩)] w fun e w' => ∃ A c', e = .returned (.agg #[.int .i64 1, .bool true, .slice A 64 c']) ∧ Cols w' A ts ∧ Gr w w' := by
  have := texture_any g _ ts w hp rfl
  rw [hts] at this
  refine this.mono ?_
  rintro e w' ⟨A, c, rfl, h, hG⟩
  exact ⟨A, c, rfl, by unfold Cols; rw [hts]; exact Sl.of_own h, hG⟩

set_option maxRecDepth 100000 in
set_option maxHeartbeats 4000000 in
theorem awake14 (w : World) : Calls Try.prog 8 #[] w fun e w' => e = .returned (.bool true) ∧ Gr w w' := by
  have hbs : ∀ w', (Instr.buildSlice 22 1 #[(0, .int .i64 2)]).run Try.prog w' = .ok (.slice (some ⟨w'.heap.size, 0, none⟩) 1 1) (w'.alloc (.cells #[.int .i64 2] 3)) := fun _ => by kernel_rfl
  have h9 : ∀ w', (Instr.buildSlice 24 1 #[(0, (Col.mk 9 9 9 9).val)]).run Try.prog w' = .ok (.slice (some ⟨w'.heap.size, 0, none⟩) 1 1) (w'.alloc (.cells (Col.mk 9 9 9 9).cells.toArray 35)) := bs_col _
  have h0 : ∀ w', (Instr.buildSlice 24 1 #[(0, Col.zero.val)]).run Try.prog w' = .ok (.slice (some ⟨w'.heap.size, 0, none⟩) 1 1) (w'.alloc (.cells Col.zero.cells.toArray 35)) := bs_col _
  go_enter Try.func8, Try.ntmps8
  go_wp2_with (first
    | (go_at_call 9; refine (paint_aw _ _ _ (Sl.new w _ 1 (ints [2]) 1 rfl)).mono ?_; rintro e w2 ⟨ts, A, c, rfl, hts, hA, hG2⟩))
  refine (build_aw A c ts _ hts (hA.gr ((Gr.refl w2).alloc _))).mono ?_
  rintro e w3 ⟨g, rfl, hp, hG3, hge⟩
  have hT3 := hG3.heap (heap_alloc_new w2 (.cells #[.int .i64 1, .bool true, .slice A 64 c] 26))
  have hG03 : Gr w w3 := ((((Gr.refl w).alloc _).trans hG2).alloc _).trans hG3
  have hA3 : Cols w3 A ts := hA.gr (((Gr.refl w2).alloc _).trans hG3)
  clear hG2 hG3 hge hA
  generalize w2.heap.size = gt at *
  go_wp2_with fail
  refine (build_zero _).mono ?_
  rintro e w4 ⟨rfl, hG4⟩
  have hT4 := hG4.heap hT3
  have hA4 := hA3.gr hG4
  have hp4 := hp.gr hG4
  have hG04 := hG03.trans hG4
  clear hG4 hT3 hA3 hp hG03
  go_wp2_with fail
  refine (with_aw g ts _ ⟨9, 9, 9, 9⟩ _ (hp4.gr ((Gr.refl w4).alloc _)) (Sl.new w4 35 4 (Col.mk 9 9 9 9).cells 1 rfl)).mono ?_
  rintro e w5 ⟨g2, rfl, hq, hG5, hge⟩
  have hG45 : Gr w4 w5 := ((Gr.refl w4).alloc _).trans hG5
  have hT5 := hG45.heap hT4
  have hA5 := hA4.gr hG45
  have hp5 := hp4.gr hG45
  have hG05 := hG04.trans hG45
  clear hG45 hT4 hA4 hp4 hG04 hG5 hge
  go_wp2_with fail
  refine (with_bad g _ _ _ _ (hp5.gr ((Gr.refl w5).alloc _)) rfl).mono ?_
  rintro e w6 ⟨rfl, hG6⟩
  have hG56 : Gr w5 w6 := ((Gr.refl w5).alloc _).trans hG6
  have hT6 := hG56.heap hT5
  have hA6 : Hid _ := hA5.gr hG56
  have hp6 : Hid _ := hp5.gr hG56
  have hq6 : Hid _ := hq.gr hG56
  have hG06 := hG05.trans hG56
  clear hG56 hT5 hA5 hp5 hG05 hG6 hq
  have HS : Hid _ := fun (l : Int) w' (hG : Gr w6 w') => size_any g _ l w' (hp6.out.gr hG)
  have HP : Hid _ := fun (l x y : Int) w' (hG : Gr w6 w') => at_pyr g _ l x y w' (hp6.out.gr hG)
  have HQ : Hid _ := fun (l x y : Int) w' (hG : Gr w6 w') => at_pyr g2 _ l x y w' (hq6.out.gr hG)
  have HD : Hid (∀ w', Gr w6 w' → Calls Try.prog 26 #[.pointer (some ⟨g, 0, none⟩)] w' fun e w'' => e = .returned (.int .i64 1) ∧ w' = w'') := fun w' (hG : Gr w6 w') => depth_any g _ w' (hp6.out.gr hG)
  have HW : Hid _ := fun w' (hG : Gr w6 w') => wrap_any g _ w' (hp6.out.gr hG)
  have HT : Hid _ := fun w' (hG : Gr w6 w') => texture_aw g _ w' (hp6.out.gr hG) hts
  have HSM : Hid _ := fun (B : Option Addr) (c1 : Nat) w' (hG : Gr w6 w') (hB : Cols w' B ts) => same_aw B A c1 c ts w' hts hB (hA6.out.gr hG)
  have e1 := aw_wrap ts
  have e2 := aw_mean ts
  have e3 := aw_new ts ⟨9, 9, 9, 9⟩ hts
  have z0 : (pyrOf 1 true ts).size 0 = 8 := by simp [Pyr.size, pyrOf, sideN]
  have z1 : (pyrOf 1 true ts).size 1 = 4 := by simp [Pyr.size, pyrOf, sideN]
  have z2 : (pyrOf 1 true ts).size 2 = 0 := by simp [Pyr.size, pyrOf, sideN]
  have wp' : (pyrOf 1 true ts).wrap = true := rfl
  rw [wp'] at HW
  clear hp6 hq6 wp' hA6
  generalize pyrOf 1 true ts = p at *
  generalize pyrOf 1 true (withRows ts 8 1 1 1 [⟨9, 9, 9, 9⟩] 1) = q at *
  obtain ⟨k1, hk1⟩ : ∃ k, p.at 0 (-1) 8 = k := ⟨_, rfl⟩
  obtain ⟨k2, hk2⟩ : ∃ k, p.at 1 0 0 = k := ⟨_, rfl⟩
  obtain ⟨k3, hk3⟩ : ∃ k, p.at 0 0 0 = k := ⟨_, rfl⟩
  obtain ⟨k4, hk4⟩ : ∃ k, p.at 0 1 0 = k := ⟨_, rfl⟩
  obtain ⟨k5, hk5⟩ : ∃ k, p.at 0 0 1 = k := ⟨_, rfl⟩
  obtain ⟨k6, hk6⟩ : ∃ k, p.at 0 1 1 = k := ⟨_, rfl⟩
  have q1 := fun w' hG => HP.out 0 (-1) 8 w' hG (by omega) (by omega) (by omega) (by omega)
  have q1b := fun w' hG => HP.out 0 7 0 w' hG (by omega) (by omega) (by omega) (by omega)
  have q2 := fun w' hG => HP.out 1 0 0 w' hG (by omega) (by omega) (by omega) (by omega)
  have q3 := fun w' hG => HP.out 0 0 0 w' hG (by omega) (by omega) (by omega) (by omega)
  have q4 := fun w' hG => HP.out 0 1 0 w' hG (by omega) (by omega) (by omega) (by omega)
  have q5 := fun w' hG => HP.out 0 0 1 w' hG (by omega) (by omega) (by omega) (by omega)
  have q6 := fun w' hG => HP.out 0 1 1 w' hG (by omega) (by omega) (by omega) (by omega)
  have q7 := fun w' hG => HQ.out 0 1 1 w' hG (by omega) (by omega) (by omega) (by omega)
  have s0 := fun w' hG => HS.out 0 w' hG
  have s1 := fun w' hG => HS.out 1 w' hG
  have s2 := fun w' hG => HS.out 2 w' hG
  rw [hk1] at q1 e1
  rw [← e1] at q1b
  rw [hk2] at q2 e2
  rw [hk3] at q3 e2
  rw [hk4] at q4 e2
  rw [hk5] at q5 e2
  rw [hk6] at q6 e2
  rw [e3] at q7
  rw [z0] at s0
  rw [z1] at s1
  rw [z2] at s2
  clear HP HQ HS z0 z1 z2 e3 e1 hk1 hk2 hk3 hk4 hk5 hk6 hbs h9 h0
  have q1 : Hid _ := q1
  have q1b : Hid _ := q1b
  have q2 : Hid _ := q2
  have q3 : Hid _ := q3
  have q4 : Hid _ := q4
  have q5 : Hid _ := q5
  have q6 : Hid _ := q6
  have q7 : Hid _ := q7
  have s0 : Hid _ := s0
  have s1 : Hid _ := s1
  have s2 : Hid _ := s2
  have qm := fun w' => refMean_any k3 k4 k5 k6 w'
  rw [← e2] at qm
  have qm : Hid _ := qm
  clear e2
  have b1 := col_eql k1 k1
  have b2 := col_eql k2 k2
  simp only [decide_true] at b1 b2
  have b3 : ∀ w', (binOp .eql 35 (Col.mk 9 9 9 9).val (.agg #[.int .u8 9, .int .u8 9, .int .u8 9, .int .u8 9])).run Try.prog w' = .ok (.bool true) w' := fun w' => col_eql ⟨9, 9, 9, 9⟩ ⟨9, 9, 9, 9⟩ w'
  go_wp2_with fail
  refine wp_region_lex [(0, .p), (1, .p), (2, .p), (3, .p), (4, .t), (5, .p), (6, .p), (7, .p), (8, .p), (9, .t), (10, .p), (11, .p), (12, .p), (13, .p), (14, .t), (15, .p), (16, .p), (17, .p), (18, .p), (19, .t), (20, .p), (21, .t), (22, .p), (23, .p), (24, .p), (25, .p), (26, .t), (27, .p), (28, .t), (29, .p), (30, .t), (31, .p), (32, .t), (33, .p), (34, .t), (35, .t), (36, .p), (37, .p), (38, .p), (39, .p), (40, .t), (41, .p), (42, .p), (43, .p), (44, .p), (45, .p), (46, .p), (47, .p), (48, .p), (49, .p), (50, .t), (51, .p), (52, .p), (53, .p), (54, .p), (55, .t), (56, .p), (57, .p), (58, .p), (60, .t), (59, .s), (61, .s), (62, .p), (63, .p), (64, .p), (65, .t), (66, .p), (67, .p), (68, .p), (69, .p), (70, .t), (71, .p), (72, .p), (73, .p), (74, .t), (75, .t), (76, .p), (77, .p)] [] (by kernel_rfl) (by kernel_rfl) ?_
  iterate 4 (refine lexG_p rfl (fun K hK => ?_); go_simp; (try go_bits); refine hK _ ?_; clear hK K)
  refine lexG_tx rfl rfl rfl ?_; apply Exists.intro; refine ⟨fun w' hG => ?_, ?_⟩
  · go_simp
    exact gr_of_same (s0.out w' hG)
  simp only [Act.put, List.setIfInBounds_toArray, List.set_cons_zero, List.set_cons_succ]
  iterate 4 (refine lexG_p rfl (fun K hK => ?_); go_simp; (try go_bits); refine hK _ ?_; clear hK K)
  refine lexG_tx rfl rfl rfl ?_; apply Exists.intro; refine ⟨fun w' hG => ?_, ?_⟩
  · go_simp
    exact gr_of_same (s1.out w' hG)
  simp only [Act.put, List.setIfInBounds_toArray, List.set_cons_zero, List.set_cons_succ]
  iterate 4 (refine lexG_p rfl (fun K hK => ?_); go_simp; (try go_bits); refine hK _ ?_; clear hK K)
  refine lexG_tx rfl rfl rfl ?_; apply Exists.intro; refine ⟨fun w' hG => ?_, ?_⟩
  · go_simp
    exact gr_of_same (s2.out w' hG)
  simp only [Act.put, List.setIfInBounds_toArray, List.set_cons_zero, List.set_cons_succ]
  iterate 4 (refine lexG_p rfl (fun K hK => ?_); go_simp; (try go_bits); refine hK _ ?_; clear hK K)
  refine lexG_tx rfl rfl rfl ?_; apply Exists.intro; refine ⟨fun w' hG => ?_, ?_⟩
  · go_simp
    exact q1.out w' hG
  simp only [Act.put, List.setIfInBounds_toArray, List.set_cons_zero, List.set_cons_succ]
  iterate 1 (refine lexG_p rfl (fun K hK => ?_); go_simp; (try go_bits); refine hK _ ?_; clear hK K)
  refine lexG_tx rfl rfl rfl ?_; apply Exists.intro; refine ⟨fun w' hG => ?_, ?_⟩
  · go_simp
    exact q1b.out w' hG
  simp only [Act.put, List.setIfInBounds_toArray, List.set_cons_zero, List.set_cons_succ]
  iterate 4 (refine lexG_p rfl (fun K hK => ?_); go_simp; (try go_bits); refine hK _ ?_; clear hK K)
  refine lexG_tx rfl rfl rfl ?_; apply Exists.intro; refine ⟨fun w' hG => ?_, ?_⟩
  · go_simp
    exact q2.out w' hG
  simp only [Act.put, List.setIfInBounds_toArray, List.set_cons_zero, List.set_cons_succ]
  iterate 1 (refine lexG_p rfl (fun K hK => ?_); go_simp; (try go_bits); refine hK _ ?_; clear hK K)
  refine lexG_tx rfl rfl rfl ?_; apply Exists.intro; refine ⟨fun w' hG => ?_, ?_⟩
  · go_simp
    exact q3.out w' hG
  simp only [Act.put, List.setIfInBounds_toArray, List.set_cons_zero, List.set_cons_succ]
  iterate 1 (refine lexG_p rfl (fun K hK => ?_); go_simp; (try go_bits); refine hK _ ?_; clear hK K)
  refine lexG_tx rfl rfl rfl ?_; apply Exists.intro; refine ⟨fun w' hG => ?_, ?_⟩
  · go_simp
    exact q4.out w' hG
  simp only [Act.put, List.setIfInBounds_toArray, List.set_cons_zero, List.set_cons_succ]
  iterate 1 (refine lexG_p rfl (fun K hK => ?_); go_simp; (try go_bits); refine hK _ ?_; clear hK K)
  refine lexG_tx rfl rfl rfl ?_; apply Exists.intro; refine ⟨fun w' hG => ?_, ?_⟩
  · go_simp
    exact q5.out w' hG
  simp only [Act.put, List.setIfInBounds_toArray, List.set_cons_zero, List.set_cons_succ]
  iterate 1 (refine lexG_p rfl (fun K hK => ?_); go_simp; (try go_bits); refine hK _ ?_; clear hK K)
  refine lexG_tx rfl rfl rfl ?_; apply Exists.intro; refine ⟨fun w' hG => ?_, ?_⟩
  · go_simp
    exact q6.out w' hG
  simp only [Act.put, List.setIfInBounds_toArray, List.set_cons_zero, List.set_cons_succ]
  refine lexG_tx rfl rfl rfl ?_; apply Exists.intro; refine ⟨fun w' hG => ?_, ?_⟩
  · go_simp
    exact qm.out w'
  simp only [Act.put, List.setIfInBounds_toArray, List.set_cons_zero, List.set_cons_succ]
  iterate 4 (refine lexG_p rfl (fun K hK => ?_); go_simp; (try go_bits); refine hK _ ?_; clear hK K)
  refine lexG_tx rfl rfl rfl ?_; apply Exists.intro; refine ⟨fun w' hG => ?_, ?_⟩
  · go_simp
    exact q7.out w' hG
  simp only [Act.put, List.setIfInBounds_toArray, List.set_cons_zero, List.set_cons_succ]
  iterate 9 (refine lexG_p rfl (fun K hK => ?_); go_simp; (try go_bits); refine hK _ ?_; clear hK K)
  refine lexG_tx rfl rfl rfl ?_; apply Exists.intro; refine ⟨fun w' hG => ?_, ?_⟩
  · go_simp
    exact gr_of_same (HD.out w' hG)
  simp only [Act.put, List.setIfInBounds_toArray, List.set_cons_zero, List.set_cons_succ]
  iterate 4 (refine lexG_p rfl (fun K hK => ?_); go_simp; (try go_bits); refine hK _ ?_; clear hK K)
  refine lexG_tx rfl rfl rfl ?_; apply Exists.intro; refine ⟨fun w' hG => ?_, ?_⟩
  · go_simp
    first | exact gr_of_same (HW.out w' hG) | exact HW.out w' hG
  simp only [Act.put, List.setIfInBounds_toArray, List.set_cons_zero, List.set_cons_succ]
  iterate 3 (refine lexG_p rfl (fun K hK => ?_); go_simp; (try go_bits); refine hK _ ?_; clear hK K)
  refine lexG_loadn (cs := [.int .i64 1, .bool true, .slice A 64 c]) rfl rfl rfl rfl rfl agg_tex size_tex (fun j u hu => by rw [Addr.add_lit, Nat.zero_add]; exact row_cell hT6 j (by simpa using hu)) ?_
  simp only [Act.put, List.setIfInBounds_toArray, List.set_cons_zero, List.set_cons_succ]
  refine lexG_s rfl (fun w7 hG7 K hK => ?_); go_simp
  refine (HT.out w7 hG7).mono ?_
  rintro e w8 ⟨A2, c2, rfl, hA2, hG8⟩
  refine hK _ _ (fun _ => hG8) ?_
  clear hK K
  refine lexG_s rfl (fun w9 hG9 K hK => ?_); go_simp
  refine (HSM.out A2 c2 w9 ((hG7.trans hG8).trans hG9) (hA2.gr hG9)).mono ?_
  rintro e w10 ⟨rfl, hG10⟩
  refine hK _ _ (fun _ => hG10) ?_
  clear hK K
  iterate 3 (refine lexG_p rfl (fun K hK => ?_); go_simp; (try go_bits); refine hK _ ?_; clear hK K)
  refine lexG_tx rfl rfl rfl ?_; apply Exists.intro; refine ⟨fun w' hG => ?_, ?_⟩
  · go_simp
    exact gr_of_same (depth_nil w')
  simp only [Act.put, List.setIfInBounds_toArray, List.set_cons_zero, List.set_cons_succ]
  iterate 4 (refine lexG_p rfl (fun K hK => ?_); go_simp; (try go_bits); refine hK _ ?_; clear hK K)
  refine lexG_tx rfl rfl rfl ?_; apply Exists.intro; refine ⟨fun w' hG => ?_, ?_⟩
  · go_simp
    exact gr_of_same (size_nil 0 w')
  simp only [Act.put, List.setIfInBounds_toArray, List.set_cons_zero, List.set_cons_succ]
  iterate 3 (refine lexG_p rfl (fun K hK => ?_); go_simp; (try go_bits); refine hK _ ?_; clear hK K)
  refine lexG_loadn (cs := [.int .i64 1, .bool true, .slice A 64 c]) rfl rfl rfl rfl rfl agg_tex size_tex (fun j u hu => by rw [Addr.add_lit, Nat.zero_add]; exact row_cell hT6 j (by simpa using hu)) ?_
  simp only [Act.put, List.setIfInBounds_toArray, List.set_cons_zero, List.set_cons_succ]
  refine lexG_tx rfl rfl rfl ?_; apply Exists.intro; refine ⟨fun w' hG => ?_, ?_⟩
  · go_simp
    exact may_aw A c w'
  simp only [Act.put, List.setIfInBounds_toArray, List.set_cons_zero, List.set_cons_succ]
  iterate 2 (refine lexG_p rfl (fun K hK => ?_); go_simp; (try go_bits); refine hK _ ?_; clear hK K)
  refine lexG_nil fun w11 hG11 => ?_
  go_wp2_with fail
  go_ret
  exact ⟨rfl, hG06.trans ((((hG7.trans hG8).trans hG9).trans hG10).trans hG11)⟩
end Go.Proofs.Ytgcemgknhkgjoaa
