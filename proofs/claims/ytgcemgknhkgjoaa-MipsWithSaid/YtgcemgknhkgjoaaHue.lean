/-
  The mean of four colours, the program's and the document's.
-/
import Derived.Test.YtgcemgknhkgjoaaSmall
set_option linter.unusedVariables false
set_option linter.unusedSimpArgs false
namespace Go.Proofs.Ytgcemgknhkgjoaa
open Go Go.RowKit

def shadeK (k : Int) : Col := ⟨b8 (k * 37), b8 (k * 11 + 5), b8 (k * k), b8 (255 - k % 3)⟩
def shade (n : Int) : Col := shadeK (n % 16777216)

set_option maxRecDepth 100000 in
set_option maxHeartbeats 400000 in
theorem shade_any (n : Int) (w : World) :
    Calls Try.prog 30 #[.int .i64 n] w fun e w' => e = .returned (shade n).val ∧ Gr w w' := by
  obtain ⟨k, hk⟩ : ∃ k, n % 16777216 = k := ⟨_, rfl⟩
  have h0 : 0 ≤ k := by omega
  have h1 : k ≤ 16777215 := by omega
  have h2 : 0 ≤ k * k := Int.mul_nonneg h0 h0
  have h3 : k * k ≤ 16777215 * 16777215 := Int.mul_le_mul h1 h1 h0 (by omega)
  have hs : shade n = shadeK k := by unfold shade; rw [hk]
  rw [hs]
  have Hk : Hid (n % 16777216 = k) := hk
  clear hk hs
  go_enter Try.func30, Try.ntmps30
  go_wp2_with (go_at_call 11; refine (round17u _ _ _ (by omega) (by omega)).mono ?_; rintro e w' ⟨rfl, rfl⟩; rw [Hk.out])
  have e4 : (255 - k % 3) % 256 = 255 - k % 3 := by omega
  refine bodyPost_ret (v := (shadeK k).val) ?_ rfl ⟨rfl, (Gr.refl w).alloc _⟩
  simp [results, Try.results30, go_sem, shadeK, toNat_b8, e4]

def meanB (a b c d : UInt8) : UInt8 := b8 (((a.toNat : Int) + b.toNat + c.toNat + d.toNat + 2) / 4)
theorem toNat_meanB (a b c d : UInt8) : ((meanB a b c d).toNat : Int) = ((a.toNat : Int) + b.toNat + c.toNat + d.toNat + 2) / 4 := by
  have := u8_bd a; have := u8_bd b; have := u8_bd c; have := u8_bd d
  rw [meanB, toNat_b8]
  omega
def Col.mean (a b c d : Col) : Col := ⟨meanB a.r b.r c.r d.r, meanB a.g b.g c.g d.g, meanB a.b b.b c.b d.b, meanB a.a b.a c.a d.a⟩

set_option maxRecDepth 100000 in
set_option maxHeartbeats 2000000 in
theorem mean_core (a0 a1 a2 a3 b0 b1 b2 b3 c0 c1 c2 c3 d0 d1 d2 d3 : UInt8) (w : World) :
    Calls Try.prog 44 #[.agg #[.int .u8 a0.toNat, .int .u8 a1.toNat, .int .u8 a2.toNat, .int .u8 a3.toNat],.agg #[.int .u8 b0.toNat, .int .u8 b1.toNat, .int .u8 b2.toNat, .int .u8 b3.toNat],.agg #[.int .u8 c0.toNat, .int .u8 c1.toNat, .int .u8 c2.toNat, .int .u8 c3.toNat],.agg #[.int .u8 d0.toNat, .int .u8 d1.toNat, .int .u8 d2.toNat, .int .u8 d3.toNat]] w
      fun e w' => e = .returned (Col.val ⟨meanB a0 b0 c0 d0, meanB a1 b1 c1 d1, meanB a2 b2 c2 d2, meanB a3 b3 c3 d3⟩) ∧ Gr w w' := by
  have h0 := a0.toNat_lt; have h1 := a1.toNat_lt; have h2 := a2.toNat_lt; have h3 := a3.toNat_lt
  have h4 := b0.toNat_lt; have h5 := b1.toNat_lt; have h6 := b2.toNat_lt; have h7 := b3.toNat_lt
  have h8 := c0.toNat_lt; have h9 := c1.toNat_lt; have h10 := c2.toNat_lt; have h11 := c3.toNat_lt
  have h12 := d0.toNat_lt; have h13 := d1.toNat_lt; have h14 := d2.toNat_lt; have h15 := d3.toNat_lt
  go_enter Try.func44, Try.ntmps44
  go_wp2
  refine wp_loop_rounds 5 ?_
  iterate 4
    rw [rounds_succ]
    go_wp2
    refine still_tail 24 (by kernel_rfl) (by kernel_rfl) ?_
    simp only [List.take_succ_cons, List.take_zero, List.drop_succ_cons, List.drop_zero]
    repeat ((refine wpStill_step (fun K hK => ?_)); go_simp; (try go_bits); refine hK _ ?_; clear hK K)
    refine wpStill_nil ?_
    go_wp2
  rw [rounds_succ]
  go_wp2
  refine bodyPost_ret (v := Col.val ⟨meanB a0 b0 c0 d0, meanB a1 b1 c1 d1, meanB a2 b2 c2 d2, meanB a3 b3 c3 d3⟩) ?_ rfl ⟨rfl, (((((((((Gr.refl w).alloc _).alloc _).alloc _).alloc _).alloc _).drew).drew).drew).drew⟩
  simp [results, Try.results44, go_sem, toNat_meanB]

theorem mean_any (a b c d : Col) (w : World) : Calls Try.prog 44 #[a.val, b.val, c.val, d.val] w fun e w' => e = .returned (Col.mean a b c d).val ∧ Gr w w' :=
  mean_core _ _ _ _ _ _ _ _ _ _ _ _ _ _ _ _ w

set_option maxRecDepth 100000 in
set_option maxHeartbeats 2000000 in
theorem refMean_core (a0 a1 a2 a3 b0 b1 b2 b3 c0 c1 c2 c3 d0 d1 d2 d3 : UInt8) (w : World) :
    Calls Try.prog 25 #[.agg #[.int .u8 a0.toNat, .int .u8 a1.toNat, .int .u8 a2.toNat, .int .u8 a3.toNat],.agg #[.int .u8 b0.toNat, .int .u8 b1.toNat, .int .u8 b2.toNat, .int .u8 b3.toNat],.agg #[.int .u8 c0.toNat, .int .u8 c1.toNat, .int .u8 c2.toNat, .int .u8 c3.toNat],.agg #[.int .u8 d0.toNat, .int .u8 d1.toNat, .int .u8 d2.toNat, .int .u8 d3.toNat]] w
      fun e w' => e = .returned (Col.val ⟨meanB a0 b0 c0 d0, meanB a1 b1 c1 d1, meanB a2 b2 c2 d2, meanB a3 b3 c3 d3⟩) ∧ Gr w w' := by
  have h0 := a0.toNat_lt; have h1 := a1.toNat_lt; have h2 := a2.toNat_lt; have h3 := a3.toNat_lt
  have h4 := b0.toNat_lt; have h5 := b1.toNat_lt; have h6 := b2.toNat_lt; have h7 := b3.toNat_lt
  have h8 := c0.toNat_lt; have h9 := c1.toNat_lt; have h10 := c2.toNat_lt; have h11 := c3.toNat_lt
  have h12 := d0.toNat_lt; have h13 := d1.toNat_lt; have h14 := d2.toNat_lt; have h15 := d3.toNat_lt
  go_enter Try.func25, Try.ntmps25
  go_wp2
  refine wp_loop_rounds 5 ?_
  iterate 4
    rw [rounds_succ]
    go_wp2
    refine still_tail 24 (by kernel_rfl) (by kernel_rfl) ?_
    simp only [List.take_succ_cons, List.take_zero, List.drop_succ_cons, List.drop_zero]
    repeat ((refine wpStill_step (fun K hK => ?_)); go_simp; (try go_bits); refine hK _ ?_; clear hK K)
    refine wpStill_nil ?_
    go_wp2
  rw [rounds_succ]
  go_wp2
  refine bodyPost_ret (v := Col.val ⟨meanB a0 b0 c0 d0, meanB a1 b1 c1 d1, meanB a2 b2 c2 d2, meanB a3 b3 c3 d3⟩) ?_ rfl ⟨rfl, ?_⟩
  · simp [results, Try.results25, go_sem, toNat_meanB]
  · exact ((((((((((Gr.refl w).alloc _).alloc _).alloc _).alloc _).alloc _).alloc _).drew).drew).drew).drew

theorem refMean_any (a b c d : Col) (w : World) : Calls Try.prog 25 #[a.val, b.val, c.val, d.val] w fun e w' => e = .returned (Col.mean a b c d).val ∧ Gr w w' :=
  refMean_core _ _ _ _ _ _ _ _ _ _ _ _ _ _ _ _ w
end Go.Proofs.Ytgcemgknhkgjoaa
