/-
  Clone of a row of colours; whether a texture may be.
-/
import Derived.Test.YtgcemgknhkgjoaaCoarser
set_option linter.unusedVariables false
set_option linter.unusedSimpArgs false
namespace Go.Proofs.Ytgcemgknhkgjoaa
open Go Go.RowKit

set_option maxRecDepth 100000 in
set_option maxHeartbeats 400000 in
theorem clone_cols (b off n c : Nat) (xs : List Value) (w : World) (hs : Sl w (some ⟨b, off, none⟩) n 4 xs) (h1 : ∀ u ∈ xs, u.oneCell' = true) (hn : n ≤ 1000000) :
    Calls Try.prog 31 #[.slice (some ⟨b, off, none⟩) n c] w fun e w' =>
      ∃ A c', e = .returned (.slice A n c') ∧ w'.ownsRow w.heap.size 35 4 (.slice A n c') n xs ∧ Gr w w' := by
  have hbs : ∀ w', (Instr.buildSlice 24 0 #[]).run Try.prog w' = .ok (.slice (some ⟨w'.heap.size, 0, none⟩) 0 0) (w'.alloc (.cells #[] 35)) := fun _ => by kernel_rfl
  have hnil := fun w' => Lib.run_eql_slice_nil (P := Try.prog) w' 24 35 (some (⟨b, off, none⟩ : Addr)) n c 0 0 Try.underlying24
  have HS : Hid _ := hs
  have H1 : Hid _ := h1
  clear hs h1
  go_enter Try.func31, Try.ntmps31
  go_wp2_with (at_builtin; refine wpList_app rfl (.tmp 5) (.tmp 6) 24 rfl ety_col w.heap.size (.slice (some ⟨w.heap.size, 0, none⟩) 0 0) 0 [] rfl (World.ownsRow_made w #[] 0 (Nat.le_refl _) (by unfold maxLen; omega) (by simp)) (some ⟨b, off, none⟩) n c xs rfl (Sl.gr HS.out ((Gr.refl w).alloc _)) H1.out (by unfold maxLen; omega) (by omega) (by simp) (fun A2 c2 w5 hap => ?_))
  simp only [Nat.zero_add, List.nil_append] at *
  go_ret
  exact ⟨A2, c2, rfl, hap.own, hap.gr (World.ownsRow_made w #[] 0 (Nat.le_refl _) (by unfold maxLen; omega) (by simp)) ((Gr.refl w).alloc _) (Nat.le_refl _)⟩

theorem may_core (D n N c : Nat) (A : Option Addr) (wrap : Bool) (w : World) (hD : D ≤ 3) (hN : wrap64 (4 * 2 ^ D) = (N : Int)) (hN2 : N ≤ 32) (hn : n = N * N) :
    Calls Try.prog 28 #[.agg #[.int .i64 D, .bool wrap, .slice A n c]] w fun e w' => e = .returned (.bool true) ∧ Gr w w' := by
  have HN : Hid _ := hN
  have Hn : Hid _ := hn
  clear hN hn
  go_enter Try.func28, Try.ntmps28
  go_wp2_with fail
  rw [HN.out]
  go_ret
  refine ⟨ret_bool ?_, (Gr.refl w).alloc _⟩
  have h1 : N * N ≤ 32 * 32 := Nat.mul_le_mul hN2 hN2
  have h2 : (N : Int) * (N : Int) = ((N * N : Nat) : Int) := by simp
  rw [h2, IntWalk.wrap64_in _ (by omega), Hn.out]
  simp
theorem may_zero (w : World) :
    Calls Try.prog 28 #[.agg #[.int .i64 0, .bool false, .slice none 0 0]] w fun e w' => e = .returned (.bool false) ∧ Gr w w' := by
  go_enter Try.func28, Try.ntmps28
  go_wp2_with fail
  go_ret
  exact ⟨rfl, (Gr.refl w).alloc _⟩
end Go.Proofs.Ytgcemgknhkgjoaa
