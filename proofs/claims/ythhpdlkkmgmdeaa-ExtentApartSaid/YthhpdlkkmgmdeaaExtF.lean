/-
  The law's own list of the free runs, left off behind so many.
-/
import Derived.Test.YthhpdlkkmgmdeaaExtT
set_option linter.unusedVariables false
set_option linter.unusedSimpArgs false
namespace Go.Proofs.Ythhpdlkkmgmdeaa
open Go Go.RowKit Go.Shelf
attribute [local go_sem] Oper.semAt_some

/-- All, or the first so many. -/
def lim (l : List (Nat × Nat)) (most : Int) : List (Nat × Nat) := if 0 ≤ most then l.take most.toNat else l

structure FMem (w W : World) (most : Int) (L : List (Nat × Nat)) : Prop where
  bm : Boxed W w.heap.size 3 (.int .i64 most)
  bs : ∃ g, Boxed W (w.heap.size + 1 + 1) 24 (ptrV g)
  own : ∃ A c', Boxed W (w.heap.size + 1) 30 (.slice A L.length c') ∧ W.ownsRow w.heap.size 48 2 (.slice A L.length c') L.length (pairs L)
theorem FMem.kept {w W W' : World} {most : Int} {L : List (Nat × Nat)} {row : Option Nat} (h : FMem w W most L) (hg : W.grownBy W' row) (hr : ∀ r, row = some r → w.heap.size + 3 ≤ r ∧ ∃ o : Obj, W.heap[r]? = some o ∧ o.isCells = false) : FMem w W' most L := by
  obtain ⟨A, c', h1, h2⟩ := h.own
  have hne : ∀ k, k < w.heap.size + 3 → some k ≠ row := fun k hk e => by have := (hr k e.symm).1; omega
  obtain ⟨g0, hbs⟩ := h.bs
  refine ⟨h.bm.kept hg (hne _ (by omega)), ⟨g0, hbs.kept hg (hne _ (by omega))⟩, A, c', h1.kept hg (hne _ (by omega)), h2.kept hg ?_⟩
  rcases h2.2 with ⟨hv, _⟩ | ⟨g', cap, cur, hv, _, hgg, _⟩
  · exact .inl (by rw [hv]; rfl)
  · refine .inr fun e' => ?_
    rw [hv] at e'
    obtain ⟨_, o, ho, hc⟩ := hr g' (by simpa [Value.ownBlock] using e'.symm)
    rw [hgg] at ho
    injection ho with ho
    subst ho
    cases hc

def FI (w : World) (g b c : Nat) (u : List Bool) (most : Int) (pre : List (RunIn u.length)) (W : World) : Prop :=
  IsExt W g b c 51 u ∧ FMem w W most (pre.map (·.1)) ∧ (0 ≤ most → (pre.length : Int) ≤ most) ∧ Gr w W
def FX (w : World) (g b c : Nat) (u : List Bool) (most : Int) (cd : Code) (pre : List (RunIn u.length)) (W : World) : Prop :=
  cd = .exit 0 ∧ ∃ ini r, pre = ini ++ [r] ∧ (ini.length : Int) = most ∧ IsExt W g b c 51 u ∧ FMem w W most (ini.map (·.1)) ∧ Gr w W

theorem FI_own {w : World} {g b c : Nat} {u : List Bool} {most : Int} (hg : g < w.heap.size) (hb : b < w.heap.size) {B : Nat} (hB : w.heap.size + 3 ≤ B) : OwnFrom B (FI w g b c u most) := by
  rintro s W W' row ⟨h1, h2, h3, h4⟩ hgr hr
  have hne : ∀ k, k < w.heap.size → some k ≠ row := fun k hk e => by have := (hr k e.symm).1; omega
  exact ⟨h1.kept hgr (hne g hg) (hne b hb), h2.kept hgr (fun r e => ⟨by have := (hr r e).1; omega, (hr r e).2⟩), h3, h4.grown hgr (fun k e => by have := (hr k e).1; omega)⟩
theorem FX_own {w : World} {g b c : Nat} {u : List Bool} {most : Int} (hg : g < w.heap.size) (hb : b < w.heap.size) {B : Nat} (hB : w.heap.size + 3 ≤ B) (cd : Code) : OwnFrom B (FX w g b c u most cd) := by
  rintro s W W' row ⟨h0, ini, r, e1, e2, h1, h2, h4⟩ hgr hr
  have hne : ∀ k, k < w.heap.size → some k ≠ row := fun k hk e => by have := (hr k e.symm).1; omega
  exact ⟨h0, ini, r, e1, e2, h1.kept hgr (hne g hg) (hne b hb), h2.kept hgr (fun r e => ⟨by have := (hr r e).1; omega, (hr r e).2⟩), h4.grown hgr (fun k e => by have := (hr k e).1; omega)⟩

theorem lim_done {u : List Bool} {most : Int} {ys : List (RunIn u.length)} (hp : ys.map (·.1) = runsTo (uat u) u.length) (h : 0 ≤ most → (ys.length : Int) ≤ most) : lim (runsTo (uat u) u.length) most = ys.map (·.1) := by
  unfold lim
  rw [← hp]
  split
  · rename_i h0
    rw [List.take_of_length_le]
    have := h h0
    simp
    omega
  · rfl
theorem lim_stop {u : List Bool} {most : Int} {ini : List (RunIn u.length)} {r : RunIn u.length} (hp : (ini ++ [r]).map (·.1) <+: runsTo (uat u) u.length) (h : (ini.length : Int) = most) : lim (runsTo (uat u) u.length) most = ini.map (·.1) := by
  unfold lim
  obtain ⟨tl, ht⟩ := hp
  rw [if_pos (by omega), ← ht, List.map_append, List.append_assoc, show most.toNat = (ini.map (·.1)).length by simp; omega, List.take_left]

/-- What the law's own list hands back. -/
def ListPost (w : World) (L : List (Nat × Nat)) (e : Ending) (w' : World) : Prop :=
  ∃ A c', e = .returned (.slice A L.length c') ∧ w'.ownsRow w.heap.size 48 2 (.slice A L.length c') L.length (pairs L) ∧ Gr w w'

set_option maxRecDepth 100000 in
set_option maxHeartbeats 2000000 in
theorem lawFree_any (g b c : Nat) (u : List Bool) (most : Int) (w : World) (h : IsExt w g b c 51 u) (hu : u.length ≤ 100000) (hm1 : -9223372036854775808 ≤ most) (hm2 : most ≤ 9223372036854775807) :
    Calls Try.prog 19 #[ptrV g, .int .i64 most] w (ListPost w (lim (runsTo (uat u) u.length) most)) := by
  have hgl : g < w.heap.size := (Array.getElem?_eq_some_iff.1 h.hd).1
  have hbl := h.bl
  have HH : Hid _ := h
  clear h
  obtain ⟨i0, hi, hz0, hz1, hz2⟩ := info_parts info_pair
  have hnf : ∀ w', (binOp .eql 55 (.func (.func 30) #[] #[.pointer (some ⟨w.heap.size + 1 + 1, 0, none⟩)]) .nilFunc).run Try.prog w' = .ok (.bool false) w' := fun _ => by kernel_rfl
  refine (callsIn_wide (n := 6)).1 ?_
  refine callsIn_of_wp_marks Try.func19 rfl trivial ?_ rfl
  simp only [Try.ntmps19, List.size_toArray, List.length_cons, List.length_nil, Nat.reduceAdd, Nat.reduceSub, Array.replicate_succ, Array.replicate_zero, List.push_toArray, List.append_toArray, List.nil_append, List.cons_append]
  gi_wp2_with (refine ⟨trivial, ?_⟩; gi_at_call 22; refine (free_in Fence.wide _ trivial rfl _ _).mono ?_; rintro e w' ⟨rfl, rfl⟩)
  have hG0 : Gr w (((w.alloc (.cells #[.int .i64 most] 3)).alloc (.cells #[.slice none 0 0] 30)).alloc (.cells #[ptrV g] 24)) := (((Gr.refl w).alloc _).alloc _).alloc _
  have hM0 : FMem w (((w.alloc (.cells #[.int .i64 most] 3)).alloc (.cells #[.slice none 0 0] 30)).alloc (.cells #[ptrV g] 24)) most [] := by
    have b1 := Boxed.new w 3 (.int .i64 most)
    have b2 := Boxed.new (w.alloc (.cells #[.int .i64 most] 3)) 30 (.slice none 0 0)
    simp only [World.size_alloc] at b2
    have b3 := Boxed.new ((w.alloc (.cells #[.int .i64 most] 3)).alloc (.cells #[.slice none 0 0] 30)) 24 (ptrV g)
    simp only [World.size_alloc] at b3
    exact ⟨(b1.alloc _).alloc _, ⟨g, b3⟩, none, 0, b2.alloc _, World.ownsRow_nil _ _ _ _⟩
  have hB0 := Boxed.new ((w.alloc (.cells #[.int .i64 most] 3)).alloc (.cells #[.slice none 0 0] 30)) 24 (ptrV g)
  simp only [World.size_alloc] at hB0
  obtain ⟨W0, hW0⟩ : ∃ W0, (((w.alloc (.cells #[.int .i64 most] 3)).alloc (.cells #[.slice none 0 0] 30)).alloc (.cells #[ptrV g] 24)) = W0 := ⟨_, rfl⟩
  have hsz : W0.heap.size = w.heap.size + 3 := by rw [← hW0]; simp
  rw [hW0] at hG0 hM0 hB0 ⊢
  clear hW0 hnf
  have hE0 := HH.out.gr hG0
  refine wpIn_rangeFunc_ownG rfl (by omega) (gf := 30) (lb := #[.pointer (some ⟨w.heap.size + 1 + 1, 0, none⟩)]) rfl trivial (enters_of Try.func30 (by kernel_rfl) rfl)
    (free_stops Fence.wide _ trivial rfl (by omega) (w.heap.size + 1 + 1) g b c u hu W0 (by omega) hB0.cell hE0) (fun h k => kpE_t h k) (kpE_b (by omega) (by omega) (by omega)) (Below.refl _ _) (fun _ => rfl)
    (FI w g b c u most) (FX w g b c u most) (FI_own hgl hbl (by omega)) (FX_own hgl hbl (by omega)) ⟨hE0, hM0, fun h => by simpa using h, hG0⟩
    (fun x => { tmps := #[ptrV g, .int .i64 most, undef, .pointer (some ⟨w.heap.size, 0, none⟩), .slice none 0 0, .pointer (some ⟨w.heap.size + 1, 0, none⟩), .func (.func 30) #[] #[.pointer (some ⟨w.heap.size + 1 + 1, 0, none⟩)], .int .i64 (x.1.1 : Int), .int .i64 (x.1.2 : Int), ptrV g, .func (.func 30) #[] #[.pointer (some ⟨w.heap.size + 1 + 1, 0, none⟩)], .func (.func 30) #[] #[.pointer (some ⟨w.heap.size + 1 + 1, 0, none⟩)], .bool false, .func (.func 30) #[] #[.pointer (some ⟨w.heap.size + 1 + 1, 0, none⟩)], .int .i64 (x.1.1 : Int), .int .i64 (x.1.2 : Int), undef, undef, undef, undef, undef, undef, undef, undef, undef, undef, undef], defers := [] }) ?assign ?body ?done ?stop
  case assign =>
    intro l x W K hK
    gi_wp2
    exact hK
  case body =>
    rintro l pre x W ⟨hI, hM, hpm, hG⟩ hlt
    have hM' := hM
    obtain ⟨hbm, ⟨g0, hbs⟩, A, c', hbx, hown⟩ := hM
    rw [List.length_map] at hbx hown
    have cm := hbm.cell
    have cx := hbx.cell
    have fx := hbx.frozen
    have hxb := x.2
    by_cases hq : (pre.length : Int) = most
    · have hqb : ((pre.length : Int) == most) = true := by simp [hq]
      have HQ : Hid _ := hq
      clear hq
      gi_wp2
      exact ⟨KeepsFrom.refl _ _, rfl, pre, x, rfl, HQ.out, hI, hM', hG⟩
    · have hqb : ((pre.length : Int) == most) = false := by simp [hq]
      have HQ : Hid _ := hq
      clear hq
      have hbld := bs_pair (x.1.1 : Int) (x.1.2 : Int)
      gi_wp2_with (gi_at_builtin; refine wpListIn_append_own _ rfl _ _ 30 rfl w.heap.size 48 i0 (.agg #[.int .i64 0, .int .i64 0]) 2 16 Try.underlying30 hi hz0 hz1 hz2 rfl (by decide) _ _ _ rfl (hown.alloc _) ⟨W.heap.size, 0, none⟩ 1 1 [.int .i64 (x.1.1 : Int), .int .i64 (x.1.2 : Int)] rfl rfl (fun j u hu => by rw [Addr.add_lit, Nat.zero_add]; exact row_cell (heap_alloc_new W _) j (by simpa using hu)) (by simp [Value.oneCell']) (by unfold maxLen; omega) (by omega) (by have := hG.size; simp; omega) ?_; intro v' w1 hown' hgrow _; obtain ⟨g', cap', rfl⟩ := ownsRow_succ hown'; obtain ⟨hv1, hv2, hr2, hk2, hb2⟩ := hbx.appended (by decide) hown hG.size (by omega) hown' hgrow; have hc1 := hv1.cell; have hf1 := hv1.frozen)
      have hL : (pre ++ [x]).map (·.1) = pre.map (·.1) ++ [x.1] := by simp
      have hp : pairs (pre.map (·.1)) ++ [.int .i64 (x.1.1 : Int), .int .i64 (x.1.2 : Int)] = pairs ((pre ++ [x]).map (·.1)) := by rw [hL, pairs_append]; rfl
      rw [hp] at hr2
      have hset := gb_set w1 ⟨w.heap.size + 1, 0, none⟩ (.slice (some ⟨g', 0, none⟩) (pre.length + 1) cap')
      have hbs2 := ((hbs.alloc (.cells #[.int .i64 (x.1.1 : Int), .int .i64 (x.1.2 : Int)] 48)).kept hgrow (hbs.not_row (by decide) hown)).kept hset (fun e => by have e2 : w.heap.size + 1 + 1 = w.heap.size + 1 := Option.some.inj e; omega)
      have hbm2 := ((hbm.alloc (.cells #[.int .i64 (x.1.1 : Int), .int .i64 (x.1.2 : Int)] 48)).kept hgrow (hbm.not_row (by decide) hown)).kept hset (fun e => by have e2 : w.heap.size = w.heap.size + 1 := Option.some.inj e; omega)
      have hK : KpE g b (w.heap.size + 1 + 1) W (w1.setCell ⟨w.heap.size + 1, 0, none⟩ (.slice (some ⟨g', 0, none⟩) (pre.length + 1) cap')) := fun k hk => by
        rcases hk with rfl | rfl | rfl
        · exact hb2.block _ hgl
        · exact hb2.block _ hbl
        · exact hbs2.trans hbs.symm
      refine ⟨hk2.from _, hK, kpE_ext hK hI (kpE_lt hK hI.bl), ⟨hbm2, ⟨g0, hbs2⟩, some ⟨g', 0, none⟩, cap', ?_, ?_⟩, fun h0 => ?_, hG.trans' hb2⟩
      · rw [List.length_map, List.length_append]; exact hv2
      · rw [List.length_map, List.length_append]; exact hr2
      · have h1 := hpm h0
        have h2 : ¬ ((pre.length : Int) = most) := HQ.out
        have h3 : (pre.length : Int) + 1 ≤ most := by omega
        simpa using h3
  case done =>
    rintro D ys W hD hys ⟨hI, hM, hpm, hG⟩ hK
    obtain ⟨hbm, ⟨g0, hbs⟩, A, c', hbx, hown⟩ := hM
    have cx := hbx.cell
    gi_wp2
    refine ⟨by simp, .inl ⟨_, _, rfl, run_takeDeferred hK, ?_⟩⟩
    rw [lim_done hys hpm]
    exact ⟨_, results_tmp rfl _ _ _, A, c', (by show Ending.returned (.slice A _ c') = _; rw [hys]), ownsRow_putObj hown _ hK rfl, hG.grown (grownBy_putObj' W D _) (fun k e => by injection e; omega)⟩
  case stop =>
    rintro D cd pre W hD hp ⟨rfl, ini, r, rfl, hin, hI, hM, hG⟩ hK
    obtain ⟨hbm, ⟨g0, hbs⟩, A, c', hbx, hown⟩ := hM
    have cx := hbx.cell
    gi_wp2
    refine ⟨by simp, .inl ⟨_, _, rfl, run_takeDeferred hK, ?_⟩⟩
    rw [lim_stop hp hin]
    exact ⟨_, results_tmp rfl _ _ _, A, c', (by show Ending.returned (.slice A _ c') = _; rw [List.length_map]), ownsRow_putObj hown _ hK rfl, hG.grown (grownBy_putObj' W D _) (fun k e => by injection e; omega)⟩

end Go.Proofs.Ythhpdlkkmgmdeaa
