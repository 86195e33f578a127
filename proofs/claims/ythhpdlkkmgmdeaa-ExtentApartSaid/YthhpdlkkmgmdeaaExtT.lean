/-
  The program's Take on sectors: the first run that is long enough is taken.
-/
import Derived.Test.YthhpdlkkmgmdeaaExtE
set_option linter.unusedVariables false
set_option linter.unusedSimpArgs false
namespace Go.Proofs.Ythhpdlkkmgmdeaa
open Go Go.RowKit Go.Shelf

attribute [local go_sem] Oper.semAt_some

set_option maxRecDepth 100000 in
set_option maxHeartbeats 1000000 in
theorem take_small (g b c : Nat) (u : List Bool) (n : Int) (w : World) (h : IsExt w g b c 51 u) (hn : n < 1) :
    Calls Try.prog 9 #[ptrV g, .int .i64 n] w (TakePost w g b c 51 (takeR u n)) := by
  have HH : Hid _ := h
  have hr : takeR u n = (0, 1, u) := by unfold takeR; rw [if_pos hn]
  rw [hr]
  have d1 : decide (n < 1) = true := by simp; omega
  clear h hr
  go_enter Try.func9, Try.ntmps9
  go_wp2_with fail
  refine bodyPost_ret (v := .tuple #[.int .i64 0, .int .i64 1]) ?_ rfl ?_
  · simp [results, Try.f9, go_sem]
  · have hG := ((((Gr.refl w).alloc (.cells #[ptrV g] 24)).alloc (.cells #[.int .i64 n] 3)).alloc (.cells #[.int .i64 0] 3)).alloc (.cells #[.int .i64 1] 25)
    exact ⟨rfl, HH.out.gr hG, gb_gr hG _⟩

/-- The memory that Take lays. -/
structure TakeMem (w W : World) (g m : Nat) (vx ve : Value) : Prop where
  bm : Boxed W w.heap.size 24 (ptrV g)
  bn : Boxed W (w.heap.size + 1) 3 (.int .i64 (m : Int))
  bx : Boxed W (w.heap.size + 1 + 1) 3 vx
  be : Boxed W (w.heap.size + 1 + 1 + 1) 25 ve

theorem TakeMem.kept {w W W' : World} {g m : Nat} {vx ve : Value} {row : Option Nat} (h : TakeMem w W g m vx ve) (hg : W.grownBy W' row) (hr : ∀ r, row = some r → r < w.heap.size ∨ w.heap.size + 4 ≤ r) : TakeMem w W' g m vx ve := by
  have hne : ∀ k, w.heap.size ≤ k → k < w.heap.size + 4 → some k ≠ row := fun k h1 h2 e => by have := hr k e.symm; omega
  exact ⟨h.bm.kept hg (hne _ (by omega) (by omega)), h.bn.kept hg (hne _ (by omega) (by omega)), h.bx.kept hg (hne _ (by omega) (by omega)), h.be.kept hg (hne _ (by omega) (by omega))⟩

def TI (w : World) (g b c m : Nat) (u : List Bool) (pre : List (RunIn u.length)) (W : World) : Prop :=
  IsExt W g b c 51 u ∧ TakeMem w W g m (.int .i64 0) (.int .i64 0) ∧ (∀ r ∈ pre, r.1.2 < m) ∧ Gr w W
def TX (w : World) (g b c m : Nat) (u : List Bool) (cd : Code) (pre : List (RunIn u.length)) (W : World) : Prop :=
  cd = .ret ∧ ∃ ini r, pre = ini ++ [r] ∧ (∀ q ∈ ini, q.1.2 < m) ∧ m ≤ r.1.2 ∧ IsExt W g b c 51 (setR u r.1.1 true m) ∧ TakeMem w W g m (.int .i64 (r.1.1 : Int)) (.int .i64 0) ∧ w.grownBy W (some b)

theorem gb_more {w W W' : World} {b : Nat} {row : Option Nat} (h : w.grownBy W (some b)) (k : W.grownBy W' row) (hr : ∀ r, row = some r → w.heap.size ≤ r) : w.grownBy W' (some b) :=
  ⟨k.os.trans h.os, k.tape.trans h.tape, k.output.trans h.output, Nat.le_trans h.size k.size, fun i hi hne => (k.block i (Nat.lt_of_lt_of_le hi h.size) (fun e => by have := hr i e.symm; omega)).trans (h.block i hi hne)⟩

theorem TI_own {w : World} {g b c m : Nat} {u : List Bool} (hg : g < w.heap.size) (hb : b < w.heap.size) {B : Nat} (hB : w.heap.size + 4 ≤ B) : OwnFrom B (TI w g b c m u) := by
  rintro s W W' row ⟨h1, h2, h3, h4⟩ hgr hr
  have hne : ∀ k, k < w.heap.size → some k ≠ row := fun k hk e => by have := (hr k e.symm).1; omega
  exact ⟨h1.kept hgr (hne g hg) (hne b hb), h2.kept hgr (fun r e => by have := (hr r e).1; omega), h3, h4.grown hgr (fun k e => by have := (hr k e).1; omega)⟩
theorem TX_own {w : World} {g b c m : Nat} {u : List Bool} (hg : g < w.heap.size) (hb : b < w.heap.size) {B : Nat} (hB : w.heap.size + 4 ≤ B) (cd : Code) : OwnFrom B (TX w g b c m u cd) := by
  rintro s W W' row ⟨h0, ini, r, h1, h2, h3, h4, h5, h6⟩ hgr hr
  have hne : ∀ k, k < w.heap.size → some k ≠ row := fun k hk e => by have := (hr k e.symm).1; omega
  exact ⟨h0, ini, r, h1, h2, h3, h4.kept hgr (hne g hg) (hne b hb), h5.kept hgr (fun r e => by have := (hr r e).1; omega), gb_more h6 hgr (fun r e => by have := (hr r e).1; omega)⟩

theorem takeR_stop {u : List Bool} {m : Nat} (hm : 1 ≤ m) {ini : List (RunIn u.length)} {r : RunIn u.length} (hp : (ini ++ [r]).map (·.1) <+: runsTo (uat u) u.length) (h1 : ∀ q ∈ ini, q.1.2 < m) (h2 : m ≤ r.1.2) :
    takeR u (m : Int) = ((r.1.1 : Int), 0, setR u r.1.1 true m) := by
  obtain ⟨tl, ht⟩ := hp
  unfold takeR
  rw [if_neg (by omega), Int.toNat_natCast, ← ht, List.map_append, List.append_assoc, List.find?_append]
  have e1 : (ini.map (·.1)).find? (fun r => decide (m ≤ r.2)) = none := by
    rw [List.find?_eq_none]
    intro x hx
    obtain ⟨q, hq, rfl⟩ := List.mem_map.1 hx
    have := h1 q hq
    simp; omega
  rw [e1]
  simp [h2]
theorem takeR_done {u : List Bool} {m : Nat} (hm : 1 ≤ m) {ys : List (RunIn u.length)} (hp : ys.map (·.1) = runsTo (uat u) u.length) (h1 : ∀ q ∈ ys, q.1.2 < m) : takeR u (m : Int) = (0, 6, u) := by
  unfold takeR
  rw [if_neg (by omega), Int.toNat_natCast, ← hp]
  have e1 : (ys.map (·.1)).find? (fun r => decide (m ≤ r.2)) = none := by
    rw [List.find?_eq_none]
    intro x hx
    obtain ⟨q, hq, rfl⟩ := List.mem_map.1 hx
    have := h1 q hq
    simp; omega
  rw [e1]

theorem TakeMem.setx {w W : World} {g m : Nat} {vx ve : Value} (h : TakeMem w W g m vx ve) (v : Value) : TakeMem w (W.setCell ⟨w.heap.size + 1 + 1, 0, none⟩ v) g m v ve := by
  have hg := gb_set W ⟨w.heap.size + 1 + 1, 0, none⟩ v
  have hne : ∀ k, k ≠ w.heap.size + 1 + 1 → some k ≠ some (⟨w.heap.size + 1 + 1, 0, none⟩ : Addr).block := fun k hk e => hk (by injection e)
  exact ⟨h.bm.kept hg (hne _ (by omega)), h.bn.kept hg (hne _ (by omega)), h.bx.set v, h.be.kept hg (hne _ (by omega))⟩
theorem TakeMem.sete {w W : World} {g m : Nat} {vx ve : Value} (h : TakeMem w W g m vx ve) (v : Value) : TakeMem w (W.setCell ⟨w.heap.size + 1 + 1 + 1, 0, none⟩ v) g m vx v := by
  have hg := gb_set W ⟨w.heap.size + 1 + 1 + 1, 0, none⟩ v
  have hne : ∀ k, k ≠ w.heap.size + 1 + 1 + 1 → some k ≠ some (⟨w.heap.size + 1 + 1 + 1, 0, none⟩ : Addr).block := fun k hk e => hk (by injection e)
  exact ⟨h.bm.kept hg (hne _ (by omega)), h.bn.kept hg (hne _ (by omega)), h.bx.kept hg (hne _ (by omega)), h.be.set v⟩
/-- Both results are stored: what was not theirs lies as it lay. -/
theorem two_set {w W W' : World} {x e : Value} (hW : W' = (W.setCell ⟨w.heap.size + 1 + 1, 0, none⟩ x).setCell ⟨w.heap.size + 1 + 1 + 1, 0, none⟩ e) {g b c : Nat} {u : List Bool} (hg : g < w.heap.size) (hb : b < w.heap.size) :
    (∀ {m vx ve}, TakeMem w W g m vx ve → TakeMem w W' g m x e) ∧ (IsExt W g b c 51 u → IsExt W' g b c 51 u) ∧ (w.grownBy W (some b) → w.grownBy W' (some b)) ∧ KeepsOthers W W' := by
  subst hW
  have g1 := gb_set W ⟨w.heap.size + 1 + 1, 0, none⟩ x
  have g2 := gb_set (W.setCell ⟨w.heap.size + 1 + 1, 0, none⟩ x) ⟨w.heap.size + 1 + 1 + 1, 0, none⟩ e
  have ne : ∀ k j, k < w.heap.size → w.heap.size ≤ j → some k ≠ some j := fun k j h1 h2 e => by injection e; omega
  refine ⟨fun h => (h.setx x).sete e, fun h => (h.kept g1 (ne _ _ hg (by simp; omega)) (ne _ _ hb (by simp; omega))).kept g2 (ne _ _ hg (by simp; omega)) (ne _ _ hb (by simp; omega)), fun h => gb_more (gb_more h g1 (fun r e => by cases e; simp; omega)) g2 (fun r e => by cases e; simp; omega), (KeepsOthers.setCell _ _ _).trans (KeepsOthers.setCell _ _ _)⟩

/-- At the return: the block for the rounds' deferred calls is turned once more. -/
theorem put_end {w W : World} {D : Nat} {o : Obj} (hD : w.heap.size + 5 ≤ D) (hK : W.heap[D]? = some (.deferred (some []))) {g b c m : Nat} {u : List Bool} {vx ve : Value} (hg : g < w.heap.size) (hb : b < w.heap.size) (hM : TakeMem w W g m vx ve) (hI : IsExt W g b c 51 u) (hG : w.grownBy W (some b)) :
    TakeMem w (W.putObj D o) g m vx ve ∧ IsExt (W.putObj D o) g b c 51 u ∧ w.grownBy (W.putObj D o) (some b) := by
  have hg1 := grownBy_putObj' W D o
  exact ⟨hM.kept hg1 (fun r e => by injection e; omega), hI.kept hg1 (fun e => by injection e; omega) (fun e => by injection e; omega), gb_more hG hg1 (fun r e => by injection e; omega)⟩

set_option maxRecDepth 100000 in
set_option maxHeartbeats 2000000 in
theorem take_core (g b c : Nat) (u : List Bool) (m : Nat) (w : World) (h : IsExt w g b c 51 u) (hu : u.length ≤ 100000) (hm : 1 ≤ m) (hmb : m ≤ 9223372036854775807) :
    Calls Try.prog 9 #[ptrV g, .int .i64 m] w (TakePost w g b c 51 (takeR u m)) := by
  have d1 : decide ((m : Int) < 1) = false := by simp; omega
  have hgl : g < w.heap.size := (Array.getElem?_eq_some_iff.1 h.hd).1
  have hbl := h.bl
  have HH : Hid _ := h
  clear h
  refine (callsIn_wide (n := 6)).1 ?_
  refine callsIn_of_wp_marks Try.func9 rfl trivial ?_ rfl
  simp only [Try.ntmps9, List.size_toArray, List.length_cons, List.length_nil, Nat.reduceAdd, Nat.reduceSub, Array.replicate_succ, Array.replicate_zero, List.push_toArray, List.append_toArray, List.nil_append, List.cons_append]
  gi_wp2_with (refine ⟨trivial, ?_⟩; gi_at_call 22; refine (free_in Fence.wide _ trivial rfl _ _).mono ?_; rintro e w' ⟨rfl, rfl⟩)
  have hG0 : Gr w (((((w.alloc (.cells #[ptrV g] 24)).alloc (.cells #[.int .i64 (m : Int)] 3)).alloc (.cells #[.int .i64 0] 3)).alloc (.cells #[.int .i64 0] 25)).alloc (.cells #[ptrV g] 24)) := (((((Gr.refl w).alloc _).alloc _).alloc _).alloc _).alloc _
  have hM0 : TakeMem w (((((w.alloc (.cells #[ptrV g] 24)).alloc (.cells #[.int .i64 (m : Int)] 3)).alloc (.cells #[.int .i64 0] 3)).alloc (.cells #[.int .i64 0] 25)).alloc (.cells #[ptrV g] 24)) g m (.int .i64 0) (.int .i64 0) := by
    have b1 := Boxed.new w 24 (ptrV g)
    have b2 := Boxed.new (w.alloc (.cells #[ptrV g] 24)) 3 (.int .i64 (m : Int))
    have b3 := Boxed.new ((w.alloc (.cells #[ptrV g] 24)).alloc (.cells #[.int .i64 (m : Int)] 3)) 3 (.int .i64 0)
    have b4 := Boxed.new (((w.alloc (.cells #[ptrV g] 24)).alloc (.cells #[.int .i64 (m : Int)] 3)).alloc (.cells #[.int .i64 0] 3)) 25 (.int .i64 0)
    simp only [World.size_alloc] at b2 b3 b4
    exact ⟨(((b1.alloc _).alloc _).alloc _).alloc _, ((b2.alloc _).alloc _).alloc _, (b3.alloc _).alloc _, b4.alloc _⟩
  have hB0 := Boxed.new ((((w.alloc (.cells #[ptrV g] 24)).alloc (.cells #[.int .i64 (m : Int)] 3)).alloc (.cells #[.int .i64 0] 3)).alloc (.cells #[.int .i64 0] 25)) 24 (ptrV g)
  simp only [World.size_alloc] at hB0
  obtain ⟨W0, hW0⟩ : ∃ W0, (((((w.alloc (.cells #[ptrV g] 24)).alloc (.cells #[.int .i64 (m : Int)] 3)).alloc (.cells #[.int .i64 0] 3)).alloc (.cells #[.int .i64 0] 25)).alloc (.cells #[ptrV g] 24)) = W0 := ⟨_, rfl⟩
  have hsz : W0.heap.size = w.heap.size + 5 := by rw [← hW0]; simp
  rw [hW0] at hG0 hM0 hB0 ⊢
  clear hW0
  have hE0 := HH.out.gr hG0
  refine wpIn_rangeFunc_ownG rfl (by omega) (gf := 30) (lb := #[.pointer (some ⟨w.heap.size + 1 + 1 + 1 + 1, 0, none⟩)]) rfl trivial (enters_of Try.func30 (by kernel_rfl) rfl)
    (free_stops Fence.wide _ trivial rfl (by omega) (w.heap.size + 1 + 1 + 1 + 1) g b c u hu W0 (by omega) hB0.cell hE0) (fun h k => kpE_t h k) (kpE_b (by omega) (by omega) (by omega)) (Below.refl _ _) (fun _ => rfl)
    (TI w g b c m u) (TX w g b c m u) (TI_own hgl hbl (by omega)) (TX_own hgl hbl (by omega)) ⟨hE0, hM0, fun r hr => (by cases hr), hG0⟩
    (fun x => { tmps := #[ptrV g, .int .i64 (m : Int), .pointer (some ⟨w.heap.size, 0, none⟩), .pointer (some ⟨w.heap.size + 1, 0, none⟩), .pointer (some ⟨w.heap.size + 1 + 1, 0, none⟩), .pointer (some ⟨w.heap.size + 1 + 1 + 1, 0, none⟩), .int .i64 (x.1.1 : Int), .int .i64 (x.1.2 : Int), ptrV g, .bool false, .bool false, .int .i64 (m : Int), .bool false, .bool false, ptrV g, .func (.func 30) #[] #[.pointer (some ⟨w.heap.size + 1 + 1 + 1 + 1, 0, none⟩)], .int .i64 (x.1.1 : Int), .int .i64 (x.1.2 : Int), undef, undef, undef, undef, undef, undef, undef, undef], defers := [] }) ?assign ?body ?done ?stop
  case assign =>
    intro l x W K hK
    gi_wp2
    exact hK
  case body =>
    rintro l pre x W ⟨hI, hM, hpre, hG⟩ hlt
    have cm := hM.bm.cell
    have cn := hM.bn.cell
    have cx := hM.bx.cell
    have fx := hM.bx.frozen
    have ce := hM.be.cell
    have fe := hM.be.frozen
    have hxb := x.2
    by_cases hx : m ≤ x.1.2
    · have hxI : (m : Int) ≤ (x.1.2 : Int) := by omega
      gi_wp2_with (refine ⟨trivial, ?_⟩; gi_at_call 23; refine (CallsIn.inRound l (callsIn_wide.2 (set_any g b c u x.1.1 m true W hI (by omega) (by omega)))).mono ?_; rintro e W2 ⟨⟨r, rfl⟩, hI2, hG2⟩; have hM2 := hM.kept hG2 (fun r e => by injection e; omega); have cx2 := hM2.bx.cell; have fx2 := hM2.bx.frozen; have ce2 := hM2.be.cell; have fe2 := hM2.be.frozen)
      obtain ⟨t1, t2, t3, t4⟩ := two_set (W := W2) (x := .int .i64 (x.1.1 : Int)) (e := .int .i64 0) (c := c) (u := setR u x.1.1 true m) rfl hgl hbl
      exact ⟨(KeepsFrom.of_grownBy hG2 (fun j e => by injection e; omega)).trans (t4.from _), rfl, pre, x, rfl, hpre, hx, t2 hI2, t1 hM2, t3 (gb_trans (gb_gr hG _) hG2)⟩
    · have hxI : (x.1.2 : Int) < (m : Int) := by omega
      gi_wp2
      exact ⟨KeepsFrom.refl _ _, kpE_refl _ _ _ _, hI, hM, fun r hr => (List.mem_append.1 hr).elim (hpre r) (fun e => by simp at e; subst e; omega), hG⟩
  case done =>
    rintro D ys W hD hys ⟨hI, hM, hpre, hG⟩ hK
    have cx := hM.bx.cell
    have fx := hM.bx.frozen
    have ce := hM.be.cell
    have fe := hM.be.frozen
    gi_wp2
    obtain ⟨t1, t2, t3, t4⟩ := two_set (W := W) (x := .int .i64 0) (e := .int .i64 6) (c := c) (u := u) rfl hgl hbl
    have hK' := t4.same D _ hK rfl
    obtain ⟨p1, p2, p3⟩ := put_end (o := .deferred none) (by omega) hK' hgl hbl (t1 hM) (t2 hI) (t3 (gb_gr hG _))
    refine ⟨by simp, .inl ⟨_, _, rfl, run_takeDeferred hK', ?_⟩⟩
    refine ⟨.tuple #[.int .i64 0, .int .i64 6], ?_, ?_⟩
    · simp [results, Try.f9, go_sem, p1.bx.cell, p1.be.cell]
    · rw [takeR_done hm hys hpre]
      exact ⟨rfl, p2, p3⟩
  case stop =>
    rintro D cd pre W hD hp ⟨rfl, ini, r, rfl, h1, h2, hI, hM, hG⟩ hK
    gi_wp2
    obtain ⟨p1, p2, p3⟩ := put_end (o := .deferred none) (by omega) hK hgl hbl hM hI hG
    refine ⟨by simp, .inl ⟨_, _, rfl, run_takeDeferred hK, ?_⟩⟩
    refine ⟨.tuple #[.int .i64 (r.1.1 : Int), .int .i64 0], ?_, ?_⟩
    · simp [results, Try.f9, go_sem, p1.bx.cell, p1.be.cell]
    · rw [takeR_stop hm hp h1 h2]
      exact ⟨rfl, p2, p3⟩

theorem take_any (g b c : Nat) (u : List Bool) (n : Int) (w : World) (h : IsExt w g b c 51 u) (hu : u.length ≤ 100000) (hn : n ≤ 9223372036854775807) :
    Calls Try.prog 9 #[ptrV g, .int .i64 n] w (TakePost w g b c 51 (takeR u n)) := by
  by_cases h1 : n < 1
  · exact take_small g b c u n w h h1
  · obtain ⟨m, rfl⟩ : ∃ m : Nat, n = (m : Int) := ⟨n.toNat, by omega⟩
    exact take_core g b c u m w h hu (by omega) (by omega)
end Go.Proofs.Ythhpdlkkmgmdeaa
