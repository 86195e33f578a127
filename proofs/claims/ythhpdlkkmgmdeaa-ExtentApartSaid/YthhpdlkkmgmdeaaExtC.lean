/-
  New maps of sectors and copies of one; the document's Take.
-/
import Derived.Test.YthhpdlkkmgmdeaaExtB
import Derived.Test.YthhpdlkkmgmdeaaApp
import Derived.OwnWalk
set_option linter.unusedVariables false
set_option linter.unusedSimpArgs false
namespace Go.Proofs.Ythhpdlkkmgmdeaa
open Go Go.RowKit

theorem info_bool : (Try.prog.info? 4).map (fun i => (i.zero, i.size, i.bytes)) = some (some (.bool false), 1, 1) := by kernel_rfl
theorem ety_bool : ElemTy Try.prog 46 4 1 1 := by
  obtain ⟨i, h1, h2, h3, h4⟩ := info_parts info_bool
  exact ⟨Try.underlying46, by omega, i, _, h1, h2, h3, h4, rfl⟩

def bools (u : List Bool) : List Value := u.map Value.bool

theorem IsExt.of_own {w : World} {g b n c base : Nat} {t : TypeId} {u : List Bool} (hd : w.heap[g]? = some (.cells #[.slice (some ⟨b, 0, none⟩) n c] t (0, 0))) (ho : w.ownsRow base 4 1 (.slice (some ⟨b, 0, none⟩) n c) n (bools u)) (hn : u.length = n) (ne : g ≠ b) : IsExt w g b c t u := by
  obtain ⟨hl, hv⟩ := ho
  rcases hv with ⟨hv, _⟩ | ⟨b', cap, cur, hv, hb, hgg, h1, h2, h3, h4⟩
  · cases hv
  · injection hv with e1 _ e3
    injection e1 with e1
    injection e1 with e1
    subst e1 e3
    refine ⟨by rw [hn]; exact hd, by omega, fun j hj => ?_, fun j hj => by simp [World.frozen?, hgg], (Array.getElem?_eq_some_iff.1 hgg).1, ne⟩
    refine row_cell hgg j ?_
    have hj2 : (cur.toList.take (n * 1))[j]? = some (.bool (uat u j)) := by
      rw [h4]; simp [bools, uat, List.getD, hj]
    rw [List.getElem?_take, if_pos (by omega)] at hj2
    simpa using hj2

theorem falses (n : Nat) : (madeCells (Value.bool false).cells (n * 1)).toList = bools (List.replicate n false) := by
  rw [show (Value.bool false).cells = #[Value.bool false] from rfl, toList_madeCells_one, Nat.mul_one]
  simp [bools]

def NewPost (w : World) (t : TypeId) (n : Nat) (r : Option Addr → Value) (e : Ending) (w' : World) : Prop :=
  ∃ g b c, e = .returned (r (some ⟨g, 0, none⟩)) ∧ IsExt w' g b c t (List.replicate n false) ∧ Gr w w' ∧ w.heap.size ≤ g ∧ w.heap.size ≤ b

set_option maxRecDepth 100000 in
theorem new_any (n : Nat) (w : World) (h1 : 1 ≤ n) (h2 : n ≤ 2048) :
    Calls Try.prog 7 #[.int .i64 n] w (NewPost w 51 n fun a => .tuple #[.pointer a, .int .i64 0]) := by
  obtain ⟨i0, hi, hz0, hz1, hz2⟩ := info_parts info_bool
  have d1 : decide ((n : Int) < 1) = false := by simp; omega
  have d2 : decide (2048 < (n : Int)) = false := by simp; omega
  go_enter Try.func7, Try.ntmps7
  go_wp2_with (at_make; refine wpList_make_full w rfl (.tmp 10) (.tmp 10) 46 rfl w.heap.size 4 i0 (.bool false) 1 Try.underlying46 hi hz0 hz1 .i64 .i64 (n : Int) (n : Int) n rfl rfl rfl rfl (by rw [hz2]; omega) (by unfold maxLen; omega) (Nat.le_refl _) ?_; intro w1 hown hgr)
  rw [falses] at hown
  have hG := (Gr.refl w).grown hgr (by simp)
  have hlt : w.heap.size < w1.heap.size := (hown.lt _ rfl).2
  go_ret2
  exact ⟨w1.heap.size, w.heap.size, n, rfl, IsExt.of_own (heap_alloc_new w1 _) (own_gr hown ((Gr.refl w1).alloc _)) (by simp) (by omega), hG.alloc _, by omega, Nat.le_refl _⟩

set_option maxRecDepth 100000 in
theorem new_bad (n : Int) (w : World) (h : n < 1 ∨ 2048 < n) :
    Calls Try.prog 7 #[.int .i64 n] w fun e w' => e = .returned (.tuple #[.pointer none, .int .i64 1]) ∧ w = w' := by
  go_enter Try.func7, Try.ntmps7
  by_cases h1 : n < 1
  · have d1 : decide (n < 1) = true := by simp; omega
    go_wp2_with fail
    go_ret2
    exact ⟨rfl, rfl⟩
  · have d1 : decide (n < 1) = false := by simp; omega
    have d2 : decide (2048 < n) = true := by simp; omega
    go_wp2_with fail
    go_ret2
    exact ⟨rfl, rfl⟩

set_option maxRecDepth 100000 in
theorem newRef_any (n : Nat) (w : World) (h1 : 1 ≤ n) (h2 : n ≤ 2048) :
    Calls Try.prog 8 #[.int .i64 n] w (NewPost w 53 n fun a => .pointer a) := by
  obtain ⟨i0, hi, hz0, hz1, hz2⟩ := info_parts info_bool
  have d1 : decide ((n : Int) < 1) = false := by simp; omega
  have d2 : decide (2048 < (n : Int)) = false := by simp; omega
  go_enter Try.func8, Try.ntmps8
  go_wp2_with (at_make; refine wpList_make_full w rfl (.tmp 9) (.tmp 9) 46 rfl w.heap.size 4 i0 (.bool false) 1 Try.underlying46 hi hz0 hz1 .i64 .i64 (n : Int) (n : Int) n rfl rfl rfl rfl (by rw [hz2]; omega) (by unfold maxLen; omega) (Nat.le_refl _) ?_; intro w1 hown hgr)
  rw [falses] at hown
  have hG := (Gr.refl w).grown hgr (by simp)
  have hlt : w.heap.size < w1.heap.size := (hown.lt _ rfl).2
  go_ret
  exact ⟨w1.heap.size, w.heap.size, n, rfl, IsExt.of_own (heap_alloc_new w1 _) (own_gr hown ((Gr.refl w1).alloc _)) (by simp) (by omega), hG.alloc _, by omega, Nat.le_refl _⟩

set_option maxRecDepth 100000 in
theorem newRef_bad (n : Int) (w : World) (h : n < 1 ∨ 2048 < n) :
    Calls Try.prog 8 #[.int .i64 n] w fun e w' => e = .returned (.pointer none) ∧ w = w' := by
  go_enter Try.func8, Try.ntmps8
  by_cases h1 : n < 1
  · have d1 : decide (n < 1) = true := by simp; omega
    go_wp2_with fail
    go_ret
    exact ⟨rfl, rfl⟩
  · have d1 : decide (n < 1) = false := by simp; omega
    have d2 : decide (2048 < n) = true := by simp; omega
    go_wp2_with fail
    go_ret
    exact ⟨rfl, rfl⟩

set_option maxRecDepth 100000 in
set_option maxHeartbeats 400000 in
theorem clone_bools (b off n c : Nat) (xs : List Value) (w : World) (hs : Sl w (some ⟨b, off, none⟩) n 1 xs) (h1 : ∀ u ∈ xs, u.oneCell' = true) (hn : n ≤ 1000000) :
    Calls Try.prog 29 #[.slice (some ⟨b, off, none⟩) n c] w fun e w' =>
      ∃ A c', e = .returned (.slice A n c') ∧ w'.ownsRow w.heap.size 4 1 (.slice A n c') n xs ∧ Gr w w' := by
  have hbs : ∀ w', (Instr.buildSlice 46 0 #[]).run Try.prog w' = .ok (.slice (some ⟨w'.heap.size, 0, none⟩) 0 0) (w'.alloc (.cells #[] 4)) := fun _ => by kernel_rfl
  have hnil := fun w' => Lib.run_eql_slice_nil (P := Try.prog) w' 46 4 (some (⟨b, off, none⟩ : Addr)) n c 0 0 Try.underlying46
  have HS : Hid _ := hs
  have H1 : Hid _ := h1
  clear hs h1
  go_enter Try.func29, Try.ntmps29
  go_wp2_with (at_builtin; refine wpList_app rfl (.tmp 5) (.tmp 6) 46 rfl ety_bool w.heap.size (.slice (some ⟨w.heap.size, 0, none⟩) 0 0) 0 [] rfl (World.ownsRow_made w #[] 0 (Nat.le_refl _) (by unfold maxLen; omega) (by simp)) (some ⟨b, off, none⟩) n c xs rfl (Sl.gr HS.out ((Gr.refl w).alloc _)) H1.out (by unfold maxLen; omega) (by omega) (by simp) (fun A2 c2 w5 hap => ?_))
  simp only [Nat.zero_add, List.nil_append] at *
  go_ret
  exact ⟨A2, c2, rfl, hap.own, hap.gr (World.ownsRow_made w #[] 0 (Nat.le_refl _) (by unfold maxLen; omega) (by simp)) ((Gr.refl w).alloc _) (Nat.le_refl _)⟩

theorem IsExt.sl {w : World} {g b c : Nat} {t : TypeId} {u : List Bool} (h : IsExt w g b c t u) : Sl w (some ⟨b, 0, none⟩) u.length 1 (bools u) := by
  refine ⟨by simp [bools], fun hn => ⟨b, 0, rfl, h.bl, fun j v hj => ?_⟩⟩
  have hjl : j < u.length := by have := (List.getElem?_eq_some_iff.1 hj).1; simpa [bools] using this
  rw [Nat.zero_add, h.cs j hjl]
  simp [bools, hjl] at hj
  simp [uat, List.getD, hjl, hj]

set_option maxRecDepth 100000 in
theorem copy_any (g b c : Nat) (u : List Bool) (w : World) (h : IsExt w g b c 51 u) (hu : 0 < u.length) (hb : u.length ≤ 1000000) :
    Calls Try.prog 20 #[ptrV g] w fun e w' => ∃ g2 b2 c2, e = .returned (ptrV g2) ∧ IsExt w' g2 b2 c2 51 u ∧ Gr w w' ∧ w.heap.size ≤ g2 ∧ w.heap.size ≤ b2 := by
  have c0 := h.cell0
  have HC : Hid _ := clone_bools b 0 u.length c (bools u) w h.sl (fun v hv => by obtain ⟨x, _, rfl⟩ := List.mem_map.1 hv; rfl) hb
  clear h
  go_enter Try.func20, Try.ntmps20
  go_wp2_with fail
  refine Calls.mono HC ?_
  rintro e w1 ⟨A, c2, rfl, hown, hG⟩
  obtain ⟨g', cap, hv, hb1, hlt⟩ := hown.form hu
  injection hv with e1 _ e3
  subst e1 e3
  go_wp2_with fail
  go_ret
  exact ⟨w1.heap.size, g', c2, rfl, IsExt.of_own (heap_alloc_new w1 _) (own_gr hown ((Gr.refl w1).alloc _)) rfl (by omega), hG.alloc _, hG.size, hb1⟩

theorem copy_nil (w : World) : Calls Try.prog 20 #[.pointer none] w fun e w' => e = .returned (.pointer none) ∧ w = w' := by
  go_enter Try.func20, Try.ntmps20
  go_wp2_with fail
  go_ret
  exact ⟨rfl, rfl⟩

/-- What Take hands back, and leaves. -/
def TakePost (w : World) (g b c : Nat) (t : TypeId) (r : Int × Int × List Bool) (e : Ending) (w' : World) : Prop :=
  e = .returned (.tuple #[.int .i64 r.1, .int .i64 r.2.1]) ∧ IsExt w' g b c t r.2.2 ∧ w.grownBy w' (some b)

theorem allB_free {u : List Bool} {a m : Nat} : allB u a m false = true ↔ AllFree (uat u) a m := allB_true

set_option maxRecDepth 100000 in
theorem takeRef_any (g b c : Nat) (u : List Bool) (n : Int) (w : World) (h : IsExt w g b c 53 u) (hb : u.length ≤ 1000000) (hn : -9223372036854775808 ≤ n ∧ n ≤ 9223372036854775807) :
    Calls Try.prog 10 #[ptrV g, .int .i64 n] w (TakePost w g b c 53 (takeR u n)) := by
  have HH : Hid _ := h
  by_cases h1 : n < 1
  · have d1 : decide (n < 1) = true := by simp; omega
    have hr : takeR u n = (0, 1, u) := by unfold takeR; rw [if_pos h1]
    rw [hr]
    clear h hr
    go_enter Try.func10, Try.ntmps10
    go_wp2_with fail
    go_ret2
    exact ⟨rfl, HH.out, gb_refl _ _⟩
  · have d1 : decide (n < 1) = false := by simp; omega
    obtain ⟨m, rfl⟩ : ∃ m : Nat, n = (m : Int) := ⟨n.toNat, by omega⟩
    have hm1 : 1 ≤ m := by omega
    have HIN : Hid (∀ a : Nat, a ≤ u.length → Calls Try.prog 24 #[ptrV g, .int .i64 a, .int .i64 m] w fun e w' => e = .returned (.bool (decide (mayR u a m))) ∧ w = w') := fun a ha => in_any g b c u a m w h hb (by omega) hn
    have HAL : Hid (∀ a : Nat, a + m ≤ u.length → Calls Try.prog 25 #[ptrV g, .int .i64 a, .int .i64 m, .bool false] w fun e w' => e = .returned (.bool (allB u a m false)) ∧ w = w') := fun a ha => all_any g b c u a m false w h ha hb
    have HMK : Hid (∀ a : Nat, a + m ≤ u.length → _) := fun a ha => mark_any g b c u a m true w h ha hb
    clear h
    go_enter Try.func10, Try.ntmps10
    go_wp2_with fail
    go_loopw [6] (fun i wr => ∃ a : Nat, i = .int .i64 (a : Int) ∧ a ≤ u.length ∧ (∀ x, x < a → ¬ AllFree (uat u) x m) ∧ w = wr) (fun i _ => u.length + 1 - (intOf i).toNat)
    case atStart => exact ⟨0, rfl, Nat.zero_le _, fun x hx => absurd hx (Nat.not_lt_zero _), rfl⟩
    case round =>
      obtain ⟨a, rfl, ha, hno, rfl⟩ := ‹∃ a : Nat, _›
      have HNO : Hid _ := hno
      clear hno
      go_wp2_with fail
      refine Calls.mono (HIN.out a ha) ?_
      rintro e w' ⟨rfl, rfl⟩
      by_cases hm : mayR u a m
      · rw [decide_eq_true hm]
        have ham : a + m ≤ u.length := by obtain ⟨q1, q2, q3, q4⟩ := hm; omega
        go_wp2_with fail
        refine Calls.mono (HAL.out a ham) ?_
        rintro e w' ⟨rfl, rfl⟩
        cases hA : allB u a m false with
        | true =>
          obtain ⟨r, hr1, hr2⟩ := fit_least hm1 (allB_free.1 hA) ham HNO.out
          have hr : takeR u (m : Int) = ((a : Int), 0, setR u a true m) := by
            unfold takeR; rw [if_neg (by omega), Int.toNat_natCast, hr1]; simp [hr2]
          have HR : Hid _ := hr
          clear hr hr1 hr2 hA
          go_wp2_with fail
          refine Calls.mono (HMK.out a ham) ?_
          rintro e w' ⟨⟨r, rfl⟩, hI, hG⟩
          go_wp2_with fail
          go_ret2
          rw [HR.out]
          exact ⟨rfl, hI, hG⟩
        | false =>
          have hnf : ¬ AllFree (uat u) a m := fun hf => by rw [allB_free.2 hf] at hA; cases hA
          have HNF : Hid _ := hnf
          clear hnf hA
          go_wp2_with fail
          go_roundw
          case rel =>
            refine ⟨a + 1, by go_num, by omega, fun x hx => ?_, by trivial⟩
            by_cases hxa : x = a
            · subst hxa; exact HNF.out
            · exact HNO.out x (by omega)
          case measure => simp [intOf]; omega
      · rw [decide_eq_false hm]
        have hr : takeR u (m : Int) = (0, 6, u) := by
          unfold takeR
          rw [if_neg (by omega), Int.toNat_natCast, fit_no hm1 (fun x hx => HNO.out x ?_)]
          have : ¬ (a + m ≤ u.length) := fun hh => hm ⟨by omega, by omega, by omega, by omega⟩
          omega
        have HR : Hid _ := hr
        clear hr hm
        go_wp2_with fail
        go_ret2
        rw [HR.out]
        exact ⟨rfl, HH.out, gb_refl _ _⟩
end Go.Proofs.Ythhpdlkkmgmdeaa
