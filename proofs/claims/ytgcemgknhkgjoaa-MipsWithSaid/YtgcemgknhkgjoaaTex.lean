/-
  The texture of a pyramid: SameTex and Texture, walked over a finest level of any length up to 1024.
-/
import Derived.Test.YtgcemgknhkgjoaaSame
set_option linter.unusedVariables false
set_option linter.unusedSimpArgs false
namespace Go.Proofs.Ytgcemgknhkgjoaa
open Go Go.RowKit

set_option maxHeartbeats 400000 in
theorem sameTex_core (A B : Option Addr) (c1 c2 D : Nat) (wrap : Bool) (la lb : List Col) (w : World) (hA : Cols w A la) (hB : Cols w B lb) (hn : la.length = lb.length) (hl : la.length ≤ 1000000) :
    Calls Try.prog 16 #[.agg #[.int .i64 D, .bool wrap, .slice A la.length c1], .agg #[.int .i64 D, .bool wrap, .slice B lb.length c2]] w fun e w' => e = .returned (.bool (decide (la = lb))) ∧ Gr w w' := by
  have H : Hid _ := fun (w' : World) (h : Gr w w') => sameHues_core A B c1 c2 la.length la lb w' (hA.gr h) (hB.gr h) rfl hn.symm hl
  rw [← hn]
  clear hA hB hn hl
  generalize la.length = n at *
  go_enter Try.func16, Try.ntmps16
  go_wp2_with (go_at_call 37; refine (H.out _ (((Gr.refl w).alloc _).alloc _)).mono ?_; rintro e w1 ⟨rfl, hG1⟩)
  go_ret
  exact ⟨rfl, (((Gr.refl w).alloc _).alloc _).trans hG1⟩

set_option maxRecDepth 100000 in
set_option maxHeartbeats 1000000 in
theorem texture_core (g b off n c D : Nat) (wrap : Bool) (ts : List Col) (w : World) (hts : ts.length = n) (hn2 : n ≤ 1024) (hs : Cols w (some ⟨b, off, none⟩) ts)
    (hc0 : w.cell? ⟨g, 0, none⟩ = some (.int .i64 D)) (hc1 : w.cell? ⟨g, 1, none⟩ = some (.bool wrap)) (hc2 : w.cell? ⟨g, 2, none⟩ = some (.slice (some ⟨b, off, none⟩) n c)) :
    Calls Try.prog 17 #[.pointer (some ⟨g, 0, none⟩)] w fun e w' => ∃ A c', e = .returned (.agg #[.int .i64 D, .bool wrap, .slice A n c']) ∧ w'.ownsRow w.heap.size 35 4 (.slice A n c') n (cols ts) ∧ Gr w w' := by
  have hgl : g < w.heap.size := World.block_lt_of_cell? w ⟨g, 0, none⟩ hc0
  have HS : Hid (Cols w (some ⟨b, off, none⟩) ts) := hs
  have Hts : Hid (ts.length = n) := hts
  clear hs hts
  go_enter Try.func17, Try.ntmps17
  go_wp2_with (first
    | (go_at_call 31; go_must (refine (clone_cols b off n c (cols ts) _ (by rw [← Hts.out]; exact Cols.gr HS.out (((Gr.refl w).alloc _).alloc _)) (cols_one ts) (by omega)).mono ?_); rintro e w2 ⟨A1, c1, rfl, hA1, hG2⟩
       have hT2 := hG2.heap (heap_alloc2_new w _ _)
       have hR2 := hG2.heap (heap_alloc2_old w _ _))
    | (refine wpList_store_row rfl rfl (w.heap.size + 1) 2 26 _ [.slice A1 n c1] rfl rfl size_cols hT2 (by simp) (by simp [Value.oneCell']) ?_
       have hT3 := setRow_at hT2 (splice #[.int .i64 D, .bool wrap, .slice (some ⟨b, off, none⟩) n c] 2 [.slice A1 n c1])
       have hR3 := (setRow_else (w := w2) (g := w.heap.size + 1) (k := w.heap.size) (by omega) (splice #[.int .i64 D, .bool wrap, .slice (some ⟨b, off, none⟩) n c] 2 [.slice A1 n c1])).trans hR2
       have hc30 := row_cell (v := .int .i64 D) hT3 0 rfl
       have hc31 := row_cell (v := .bool wrap) hT3 1 rfl
       have hc32 := row_cell (v := .slice A1 n c1) hT3 2 rfl)
    | (refine wpList_store_row rfl rfl w.heap.size 0 26 _ [.int .i64 D, .bool wrap, .slice A1 n c1] rfl rfl size_tex hR3 (by simp) (by simp [Value.oneCell']) ?_))
  have hWa := (own_base hA1 (by simp; omega) : w2.ownsRow w.heap.size 35 4 (.slice A1 n c1) n (cols ts))
  refine bodyPost_ret (v := .agg #[.int .i64 D, .bool wrap, .slice A1 n c1]) (results_cell_row rfl _ _ w.heap.size 26 _ (0,0) _ rfl (setRow_at hR3 _) Try.underlying26 rfl (by kernel_rfl)) rfl ⟨A1, c1, rfl, own_setRow (own_setRow hWa hT2 (by decide)) hR3 (by decide), (((((Gr.refl w).alloc _).alloc _).trans hG2).setRow (by omega) _).setRow (Nat.le_refl _) _⟩
end Go.Proofs.Ytgcemgknhkgjoaa
