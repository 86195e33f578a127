/-
  What the document fixes: law9's awake returns true in every world.
-/
import Derived.Test.YthhpdlkkmgmdeaaExtF
set_option linter.unusedVariables false
set_option linter.unusedSimpArgs false
namespace Go.Proofs.Ythhpdlkkmgmdeaa
open Go Go.RowKit

theorem gr_gb {w0 w w' : World} {b : Nat} (h : Gr w0 w) (hg : w.grownBy w' (some b)) (hb : w0.heap.size ≤ b) : Gr w0 w' := h.grown hg (fun k e => by injection e; omega)

set_option maxRecDepth 100000 in
set_option maxHeartbeats 2000000 in
theorem awake9 (w : World) : Calls Try.prog 6 #[] w fun e w' => e = .returned (.bool true) ∧ Gr w w' := by
  have r1 : takeR [false, false, false, false] 2 = (0, 0, [true, true, false, false]) := by decide
  have r2 : takeR [true, true, false, false] 1 = (2, 0, [true, true, true, false]) := by decide
  have r3 : takeR [true, true, true, false] 2 = (0, 6, [true, true, true, false]) := by decide
  have r4 : giveR [true, true, true, false] 0 2 = (0, [false, false, true, false]) := by decide
  have r5 : takeR [false, false, true, false] 1 = (0, 0, [true, false, true, false]) := by decide
  have r6 : claimR [true, false, true, false] 2 1 = (5, [true, false, true, false]) := by decide
  have r7 : giveR [true, false, true, false] 3 1 = (4, [true, false, true, false]) := by decide
  have r8 : claimR [true, false, true, false] 4 1 = (1, [true, false, true, false]) := by decide
  have hL : lim (runsTo (uat [true, false, true, false]) [true, false, true, false].length) (-1) = [(1, 1), (3, 1)] := by decide
  have hU : usedR [true, false, true, false] = 2 := by decide
  have R1 : Hid _ := r1
  have R2 : Hid _ := r2
  have R3 : Hid _ := r3
  have R4 : Hid _ := r4
  have R5 : Hid _ := r5
  have R6 : Hid _ := r6
  have R7 : Hid _ := r7
  have R8 : Hid _ := r8
  have RL : Hid _ := hL
  have RU : Hid _ := hU
  clear r1 r2 r3 r4 r5 r6 r7 r8 hL hU
  have hb2 : ∀ w', (Instr.buildSlice 30 2 #[(0, .agg #[.int .i64 1, .int .i64 1]), (1, .agg #[.int .i64 3, .int .i64 1])]).run Try.prog w' = .ok (.slice (some ⟨w'.heap.size, 0, none⟩) 2 2) (w'.alloc (.cells #[.int .i64 1, .int .i64 1, .int .i64 3, .int .i64 1] 48)) := fun _ => by kernel_rfl
  go_enter Try.func6, Try.ntmps6
  go_wp2_with fail
  refine (new_any 4 w (by omega) (by omega)).mono ?_
  rintro e w1 ⟨g, b, c, rfl, hI, hG, hg, hbb⟩
  go_wp2_with fail
  refine (new_bad 0 w1 (by omega)).mono ?_
  rintro e w1' ⟨rfl, rfl⟩
  go_wp2_with fail
  refine (take_any g b c _ 2 _ hI (by decide) (by omega)).mono ?_
  rintro e wn ⟨rfl, hI', hg'⟩
  have hG' := gr_gb hG hg' hbb
  simp only [show List.replicate 4 false = [false, false, false, false] from rfl, R1.out] at hI' ⊢
  clear hI hG hg'
  have hI := hI'
  have hG := hG'
  clear hI' hG'
  go_wp2_with fail
  refine (take_any g b c _ 1 _ hI (by decide) (by omega)).mono ?_
  rintro e wn ⟨rfl, hI', hg'⟩
  have hG' := gr_gb hG hg' hbb
  simp only [show List.replicate 4 false = [false, false, false, false] from rfl, R2.out] at hI' ⊢
  clear hI hG hg'
  have hI := hI'
  have hG := hG'
  clear hI' hG'
  go_wp2_with fail
  refine (take_any g b c _ 2 _ hI (by decide) (by omega)).mono ?_
  rintro e wn ⟨rfl, hI', hg'⟩
  have hG' := gr_gb hG hg' hbb
  simp only [show List.replicate 4 false = [false, false, false, false] from rfl, R3.out] at hI' ⊢
  clear hI hG hg'
  have hI := hI'
  have hG := hG'
  clear hI' hG'
  go_wp2_with fail
  refine (give_any g b c _ 0 2 _ hI (by decide) (by omega) (by omega)).mono ?_
  rintro e wn ⟨rfl, hI', hg'⟩
  have hG' := gr_gb hG hg' hbb
  simp only [show List.replicate 4 false = [false, false, false, false] from rfl, R4.out] at hI' ⊢
  clear hI hG hg'
  have hI := hI'
  have hG := hG'
  clear hI' hG'
  go_wp2_with fail
  refine (take_any g b c _ 1 _ hI (by decide) (by omega)).mono ?_
  rintro e wn ⟨rfl, hI', hg'⟩
  have hG' := gr_gb hG hg' hbb
  simp only [show List.replicate 4 false = [false, false, false, false] from rfl, R5.out] at hI' ⊢
  clear hI hG hg'
  have hI := hI'
  have hG := hG'
  clear hI' hG'
  go_wp2_with fail
  refine (claim_any g b c _ 2 1 _ hI (by decide) (by omega) (by omega)).mono ?_
  rintro e wn ⟨rfl, hI', hg'⟩
  have hG' := gr_gb hG hg' hbb
  simp only [show List.replicate 4 false = [false, false, false, false] from rfl, R6.out] at hI' ⊢
  clear hI hG hg'
  have hI := hI'
  have hG := hG'
  clear hI' hG'
  go_wp2_with fail
  refine (give_any g b c _ 3 1 _ hI (by decide) (by omega) (by omega)).mono ?_
  rintro e wn ⟨rfl, hI', hg'⟩
  have hG' := gr_gb hG hg' hbb
  simp only [show List.replicate 4 false = [false, false, false, false] from rfl, R7.out] at hI' ⊢
  clear hI hG hg'
  have hI := hI'
  have hG := hG'
  clear hI' hG'
  go_wp2_with fail
  refine (claim_any g b c _ 4 1 _ hI (by decide) (by omega) (by omega)).mono ?_
  rintro e wn ⟨rfl, hI', hg'⟩
  have hG' := gr_gb hG hg' hbb
  simp only [show List.replicate 4 false = [false, false, false, false] from rfl, R8.out] at hI' ⊢
  clear hI hG hg'
  have hI := hI'
  have hG := hG'
  clear hI' hG'
  go_wp2_with fail
  refine (used_any g b c _ _ hI (by decide)).mono ?_
  rintro e wn ⟨rfl, rfl⟩
  rw [RU.out]
  go_wp2_with fail
  refine (lawFree_any g b c _ (-1) _ hI (by decide) (by omega) (by omega)).mono ?_
  rintro e wn ⟨A, c', rfl, hown, hG2⟩
  rw [RL.out] at hown ⊢
  have hG := hG.trans hG2
  have hP : Prs wn A [(1, 1), (3, 1)] := own_prs hown rfl
  clear hown hI hG2
  go_wp2_with fail
  have hS := same_any A (some ⟨wn.heap.size, 0, none⟩) c' 2 [(1, 1), (3, 1)] [(1, 1), (3, 1)] (wn.alloc (.cells #[.int .i64 1, .int .i64 1, .int .i64 3, .int .i64 1] 48)) (hP.gr ((Gr.refl wn).alloc _)) (Sl.new wn 48 2 [.int .i64 1, .int .i64 1, .int .i64 3, .int .i64 1] 2 rfl) (by decide) (by decide)
  rw [decide_eq_true rfl] at hS
  refine Calls.mono hS ?_
  clear hS
  rintro e wm ⟨rfl, hG3⟩
  have hG := (hG.alloc _).trans hG3
  clear hP hG3
  go_wp2_with fail
  refine (used_nil _).mono ?_
  rintro e wm' ⟨rfl, rfl⟩
  go_wp2_with fail
  refine (copy_nil _).mono ?_
  rintro e wm' ⟨rfl, rfl⟩
  go_wp2_with fail
  refine (claim_nil 0 1 _).mono ?_
  rintro e wm' ⟨rfl, rfl⟩
  go_wp2_with fail
  go_ret
  exact ⟨rfl, hG⟩
end Go.Proofs.Ythhpdlkkmgmdeaa
