/-
  Equality of arrays; of colours.
-/
import Derived.Test.YtgcemgknhkgjoaaBase
set_option linter.unusedVariables false
set_option linter.unusedSimpArgs false
namespace Go.Proofs.Ytgcemgknhkgjoaa
open Go Go.RowKit

def eqArr (d : Nat) (e s : Nat) (xs ys : Array Value) : List Nat → Sem Bool
  | [] => pure true
  | i :: is => do
    let a ← part e xs (i * s)
    let b ← part e ys (i * s)
    let r ← Op.equalIn d e a b
    if (!r) = true then pure false else eqArr d e s xs ys is

theorem run_equalIn_arr {P : Program} (w : World) (d n s : Nat) (t e : TypeId) (ht : P.underlying t = some (.array n e)) (hs : ∀ w, (sizeOf e).run P w = .ok s w) (xs ys : Array Value) :
    (Op.equalIn (d + 1) t (.agg xs) (.agg ys)).run P w = (eqArr d e s xs ys (List.range' 0 n)).run P w := by
  simp only [Op.equalIn, Sem.run_bind, run_underlying ht, Result.andThen_ok, hs]
  simp only [Std.Legacy.Range.forIn_eq_forIn_range', Std.Legacy.Range.size, Nat.sub_zero, Nat.add_sub_cancel, Nat.div_one]
  generalize List.range' 0 n = is
  induction is generalizing w with
  | nil => simp [eqArr]
  | cons i is ih =>
    simp only [List.forIn_cons, eqArr, Sem.run_bind, Sem.run_ite]
    generalize (part e xs (i * s)).run P w = r1
    cases r1 with
    | ok a w1 =>
      simp only [Result.andThen_ok]
      generalize (part e ys (i * s)).run P w1 = r2
      cases r2 with
      | ok b w2 =>
        simp only [Result.andThen_ok]
        generalize (Op.equalIn d e a b).run P w2 = r3
        cases r3 with
        | ok r w3 =>
          cases r
          · simp only [Result.andThen_ok, Bool.not_false, if_true, Sem.run_pure]
          · simp only [Result.andThen_ok, Bool.not_true, Bool.false_eq_true, if_false, Sem.run_pure]
            exact ih w3
        | halt x w3 => simp [Result.andThen]
      | halt x w2 => simp [Result.andThen]
    | halt x w1 => simp [Result.andThen]

theorem run_part1 {P : Program} (w : World) (e i : Nat) (xs : Array Value) (v : Value) (hagg : ∀ w, (isAgg e).run P w = .ok false w) (hv : xs[i]? = some v) : (part e xs i).run P w = .ok v w := by
  simp [part, hagg, hv]

theorem col_eq_iff (x y : Col) : x = y ↔ x.r = y.r ∧ x.g = y.g ∧ x.b = y.b ∧ x.a = y.a := by
  cases x; cases y; simp

theorem u8_beq (x y : UInt8) : (((x.toNat : Nat) : Int) == ((y.toNat : Nat) : Int)) = decide (x = y) := by
  by_cases h : x = y
  · subst h; simp
  · have : x.toNat ≠ y.toNat := fun e => h (UInt8.toNat_inj.1 e)
    have h2 : ((x.toNat : Nat) : Int) ≠ ((y.toNat : Nat) : Int) := by omega
    rw [beq_eq_false_iff_ne.2 h2, decide_eq_false h]

theorem run_equalIn_col (x y : Col) (w : World) : (Op.equalIn 10000 35 x.val y.val).run Try.prog w = .ok (decide (x = y)) w := by
  have ha : ∀ w : World, (isAgg 5).run Try.prog w = .ok false w := fun _ => by kernel_rfl
  rw [run_equalIn_arr w 9999 4 1 35 5 Try.underlying35 (fun _ => by kernel_rfl)]
  have p0 : ∀ w, (part 5 x.cells.toArray 0).run Try.prog w = .ok (.int .u8 x.r.toNat) w := fun w => run_part1 w _ _ _ _ ha rfl
  have p1 : ∀ w, (part 5 x.cells.toArray 1).run Try.prog w = .ok (.int .u8 x.g.toNat) w := fun w => run_part1 w _ _ _ _ ha rfl
  have p2 : ∀ w, (part 5 x.cells.toArray 2).run Try.prog w = .ok (.int .u8 x.b.toNat) w := fun w => run_part1 w _ _ _ _ ha rfl
  have p3 : ∀ w, (part 5 x.cells.toArray 3).run Try.prog w = .ok (.int .u8 x.a.toNat) w := fun w => run_part1 w _ _ _ _ ha rfl
  have q0 : ∀ w, (part 5 y.cells.toArray 0).run Try.prog w = .ok (.int .u8 y.r.toNat) w := fun w => run_part1 w _ _ _ _ ha rfl
  have q1 : ∀ w, (part 5 y.cells.toArray 1).run Try.prog w = .ok (.int .u8 y.g.toNat) w := fun w => run_part1 w _ _ _ _ ha rfl
  have q2 : ∀ w, (part 5 y.cells.toArray 2).run Try.prog w = .ok (.int .u8 y.b.toNat) w := fun w => run_part1 w _ _ _ _ ha rfl
  have q3 : ∀ w, (part 5 y.cells.toArray 3).run Try.prog w = .ok (.int .u8 y.a.toNat) w := fun w => run_part1 w _ _ _ _ ha rfl
  have hi := fun (a b : Int) (w : World) => run_equalIn_int (P := Try.prog) w 9998 5 .u8 .u8 a b Try.underlying5
  show (eqArr 9999 5 1 x.cells.toArray y.cells.toArray [0, 1, 2, 3]).run Try.prog w = _
  simp only [eqArr, Sem.run_bind, Nat.zero_mul, Nat.one_mul, Nat.reduceMul, p0, p1, p2, p3, q0, q1, q2, q3, Result.andThen_ok, hi, u8_beq, Sem.run_ite, Sem.run_pure]
  rw [show decide (x = y) = (decide (x.r = y.r) && (decide (x.g = y.g) && (decide (x.b = y.b) && decide (x.a = y.a)))) by simp [col_eq_iff, Bool.decide_and]]
  by_cases h0 : x.r = y.r <;> by_cases h1 : x.g = y.g <;> by_cases h2 : x.b = y.b <;> by_cases h3 : x.a = y.a <;> simp [h0, h1, h2, h3]

theorem col_eql (x y : Col) (w : World) : (binOp .eql 35 x.val y.val).run Try.prog w = .ok (.bool (decide (x = y))) w := by
  have := run_equalIn_col x y w
  rw [run_eql_struct, this]
  rfl
theorem col_neq (x y : Col) (w : World) : (binOp .neq 35 x.val y.val).run Try.prog w = .ok (.bool (!decide (x = y))) w := by
  have := run_equalIn_col x y w
  rw [run_neq_struct, this]
  rfl
end Go.Proofs.Ytgcemgknhkgjoaa
