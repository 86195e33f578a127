/-
  The program's Free on sectors, an iterator: its contract.
-/
import Derived.RangeFuncNested
import Derived.RangeFuncBound
import Derived.RangeFuncCalls
import Derived.RangeFuncLeaves
import Derived.RangeFuncBox
import Derived.Shelf.Abstract
import Derived.Shelf.RegionOpen
import Derived.WalkKit
import Derived.OwnWalkIn
import Derived.TacticsInMore
import Derived.LoopNIn
import Derived.LoopIn
import Derived.Test.YthhpdlkkmgmdeaaExtD
set_option linter.unusedVariables false
set_option linter.unusedSimpArgs false
namespace Go.Proofs.Ythhpdlkkmgmdeaa
open Go Go.RowKit Go.Shelf

attribute [local go_sem] Oper.semAt_some

theorem runs_prefix {f : Nat → Bool} {k : Nat} (hk : k = 0 ∨ f (k - 1) = true) : ∀ N, k ≤ N → runsTo f k <+: runsTo f N := by
  intro N
  induction N using Nat.strongRecOn with
  | ind N ih =>
    intro hkN
    by_cases h : k = N
    · subst h; exact List.prefix_refl _
    · obtain ⟨M, rfl⟩ : ∃ M, N = M + 1 := ⟨N - 1, by omega⟩
      cases hM : f M with
      | true => rw [runs_used hM]; exact ih M (by omega) (by omega)
      | false =>
        obtain ⟨s, h1, h2, h3⟩ := run_start f M hM
        rw [runs_ext h2 (M + 1) (by omega) h3]
        have hks : k ≤ s := by
          rcases Nat.lt_or_ge s k with h4 | h4
          · rcases hk with h5 | h5
            · omega
            · have := h3 (k - 1) (by omega) (by omega)
              rw [this] at h5; cases h5
          · exact h4
        exact (ih s (by omega) hks).trans (List.prefix_append _ _)

theorem runs_prefix2 {f : Nat → Bool} {e N : Nat} (he : e = N ∨ f e = true) (hN : e ≤ N) : runsTo f e <+: runsTo f N := by
  rcases he with rfl | h
  · exact List.prefix_refl _
  · by_cases h2 : e = N
    · subst h2; exact List.prefix_refl _
    · have := runs_prefix (f := f) (k := e + 1) (.inr (by simpa using h)) N (by omega)
      rwa [runs_used h] at this

/-- What a round that goes on keeps: the map's block, its Booleans, its box. -/
def KpE (g b Bs : Nat) (W W' : World) : Prop := ∀ k, (k = g ∨ k = b ∨ k = Bs) → W'.heap[k]? = W.heap[k]?
theorem kpE_refl (g b Bs : Nat) (W : World) : KpE g b Bs W W := fun _ _ => rfl
theorem kpE_t {g b Bs : Nat} {A B C : World} (h : KpE g b Bs A B) (k : KpE g b Bs B C) : KpE g b Bs A C := fun i hi => (k i hi).trans (h i hi)
theorem kpE_b {g b Bs : Nat} {w : World} (hg : g < w.heap.size) (hb : b < w.heap.size) (hs : Bs < w.heap.size) (W : World) (l : Nat) (o o' : Obj) (hl : w.heap.size ≤ l) (h : W.heap[l]? = some o) (_ : o.isCells = false) (_ : o.isWalk = false) : KpE g b Bs W (W.putObj l o') :=
  fun k hk => World.putObj_heap_other (by omega)
theorem kpE_ext {g b Bs c : Nat} {t : TypeId} {u : List Bool} {W W' : World} (h : KpE g b Bs W W') (hI : IsExt W g b c t u) (hsz : b < W'.heap.size) : IsExt W' g b c t u :=
  ⟨(h g (.inl rfl)).trans hI.hd, hI.cap, fun j hj => (World.cell?_of_block (a := ⟨b, j, none⟩) (h b (.inr (.inl rfl)))).trans (hI.cs j hj), fun j hj => (World.frozen?_of_block (a := ⟨b, j, none⟩) (h b (.inr (.inl rfl)))).trans (hI.fz j hj), hsz, hI.ne⟩
theorem kpE_lt {g b Bs : Nat} {W W' : World} (h : KpE g b Bs W W') (hb : b < W.heap.size) : b < W'.heap.size := by
  have := h b (.inr (.inl rfl))
  rw [Array.getElem?_eq_getElem hb] at this
  exact (Array.getElem?_eq_some_iff.1 this).1

set_option maxRecDepth 100000 in
set_option maxHeartbeats 4000000 in
theorem free1_in (F : Fence) (n : Nat) (h30 : F.fn 30) (hro : F.round = none) (hn : 1 ≤ n) (l Bs g b c : Nat) (u : List Bool) (hu : u.length ≤ 100000) (J Jx : List (Nat × Nat) → World → Prop)
    (hY : ∀ pre (x : Nat × Nat) W, J pre W → x.1 + x.2 ≤ u.length → pre.length < u.length + 1 → YieldAt F (n - 1) Try.prog l #[.int .i64 (x.1 : Int), .int .i64 (x.2 : Int)] W fun e W' =>
      (e = .returned (.bool true) ∧ J (pre ++ [x]) W' ∧ KpE g b Bs W W') ∨ (e = .returned (.bool false) ∧ Jx (pre ++ [x]) W'))
    (W : World) (hBs : W.cell? ⟨Bs, 0, none⟩ = some (ptrV g)) (hI : IsExt W g b c 51 u) (h0 : J [] W) :
    CallsIn F n Try.prog 30 #[.func (.yield l) #[] #[], .pointer (some ⟨Bs, 0, none⟩)] W fun e W' => (∃ v, e = .returned v) ∧
      ((∃ ys, ys = runsTo (uat u) u.length ∧ J ys W') ∨ (∃ pre, pre <+: runsTo (uat u) u.length ∧ Jx pre W')) := by
  have HY : Hid _ := hY
  clear hY
  refine callsIn_of_wp Try.func30 rfl h30 ?_ hro
  simp only [Try.ntmps30, List.size_toArray, List.length_cons, List.length_nil, Nat.reduceAdd, Nat.reduceSub, Array.replicate_succ, Array.replicate_zero, List.push_toArray, List.append_toArray, List.nil_append, List.cons_append]
  gi_wp2
  gi_loopw [3] (fun i wr => ∃ s : Nat, i = .int .i64 (s : Int) ∧ s ≤ u.length + 1 ∧ (s = 0 ∨ uat u (s - 1) = true) ∧ J (runsTo (uat u) (min s u.length)) wr ∧ KpE g b Bs W wr) (fun i _ => u.length + 1 - (intOf i).toNat)
  case atStart => exact ⟨0, rfl, by omega, .inl rfl, by simpa [runsTo] using h0, kpE_refl _ _ _ _⟩
  case round =>
    obtain ⟨s, rfl, hs, hsb, hJ, hK⟩ := ‹∃ s : Nat, _›
    have hIr := kpE_ext hK hI (kpE_lt hK hI.bl)
    have c0 := hIr.cell0
    have cB : wr.cell? ⟨Bs, 0, none⟩ = some (ptrV g) := (World.cell?_of_block (a := ⟨Bs, 0, none⟩) (hK Bs (.inr (.inr rfl)))).trans hBs
    by_cases hlt : s < u.length
    · have hltI : (s : Int) < (u.length : Int) := by omega
      rw [Nat.min_eq_left (by omega)] at hJ
      have HJ0 : Hid _ := hJ
      clear hJ
      gi_wp2
      gi_loopw [4] (fun i wr2 => ∃ e : Nat, i = .int .i64 (e : Int) ∧ s ≤ e ∧ e ≤ u.length ∧ Hid (∀ j, s ≤ j → j < e → uat u j = false) ∧ wr = wr2) (fun i _ => u.length - (intOf i).toNat)
      case atStart => exact ⟨s, rfl, Nat.le_refl _, by omega, fun j h1 h2 => absurd h1 (by omega), rfl⟩
      case round =>
        obtain ⟨e, rfl, hse0, heN, hfreeH, rfl⟩ := ‹∃ e : Nat, _›
        have hfree := hfreeH.out
        have hJ := HJ0.out
        clear HJ0 hfreeH
        by_cases hel : e < u.length
        · have helI : (e : Int) < (u.length : Int) := by omega
          have ce := hIr.cs e hel
          cases hue : uat u e with
          | true =>
            rw [hue] at ce
            have heb : e = u.length ∨ uat u e = true := .inr hue
            have heu := hue
            have hje : runsTo (uat u) (min (e + 1) u.length) = runsTo (uat u) e := by rw [Nat.min_eq_left (by omega), runs_used hue]
            have HI : Hid _ := hIr
            clear hIr hue
            by_cases hes : s < e
            · have hrun := runs_ext hsb e hes hfree
              have hrl := runsTo_length (uat u) s
              obtain ⟨fn, tmps, assign, body, hy, hR⟩ := HY.out (runsTo (uat u) s) (s, e - s) wr hJ (by simp only; omega) (by omega)
              dsimp only at hy
              rw [show ((e - s : Nat) : Int) = (e : Int) - (s : Int) by omega] at hy
              rw [← hrun] at hR
              have hesI : decide ((s : Int) < (e : Int)) = true := by simp; omega
              have HJE : Hid (runsTo (uat u) (min (e + 1) u.length) = runsTo (uat u) e) := hje
              have HB : Hid (uat u e = true) := heu
              have HPR : Hid _ := runs_prefix2 (f := uat u) heb heN
              clear hje heu hrun heb hfree hJ HY
              gi_wp2
              refine hR.mono ?_
              rintro e' W3 (⟨rfl, hJ3, hk3⟩ | ⟨rfl, hJx3⟩)
              · gi_wp2
                go_roundw
                case rel => exact ⟨e + 1, by go_num, by omega, .inr (by simpa using HB.out), by rw [HJE.out]; exact hJ3, kpE_t hK hk3⟩
                case measure => simp [intOf]; omega
              · gi_wp2
                refine bodyPost_ret (results_none rfl _ _ _) rfl ?_
                exact ⟨⟨_, rfl⟩, .inr ⟨_, HPR.out, hJx3⟩⟩
            · have hse : s = e := by omega
              have HJE : Hid (runsTo (uat u) (min (e + 1) u.length) = runsTo (uat u) e) := hje
              have HB : Hid (uat u e = true) := heu
              have HJ : Hid (J (runsTo (uat u) e) wr) := hse ▸ hJ
              have hesI : decide ((s : Int) < (e : Int)) = false := by simp; omega
              clear hje heu heb hfree hJ HY hse
              gi_wp2
              all_goals (try (refine ⟨fun _ h => (by cases h), ?_⟩; gi_wp2))
              go_roundw
              case rel => exact ⟨e + 1, by go_num, by omega, .inr (by simpa using HB.out), by rw [HJE.out]; exact HJ.out, hK⟩
              case measure => simp [intOf]; omega
          | false =>
            rw [hue] at ce
            have HF : Hid (∀ j, s ≤ j → j < e + 1 → uat u j = false) := fun j h1 h2 => by
              by_cases hj : j = e
              · subst hj; exact hue
              · exact hfree j h1 (by omega)
            clear hue hfree hJ hIr HY
            gi_wp2
            go_roundw
            case rel => exact ⟨e + 1, by go_num, by omega, by omega, HF, by trivial⟩
            case measure => simp [intOf]; omega
        · have hee : e = u.length := by omega
          have helI : ¬ (e : Int) < (u.length : Int) := by omega
          have helD : decide ((e : Int) < (u.length : Int)) = false := by simp; omega
          have heb : e = u.length ∨ uat u e = true := .inl hee
          have heu : uat u e = true := by simp [uat, List.getD, hee]
          have hje : runsTo (uat u) (min (e + 1) u.length) = runsTo (uat u) e := by rw [hee, Nat.min_eq_right (by omega)]
          have HI : Hid _ := hIr
          have HEE : Hid _ := hee
          clear hIr hee
          by_cases hes : s < e
          · have hrun := runs_ext hsb e hes hfree
            have hrl := runsTo_length (uat u) s
            obtain ⟨fn, tmps, assign, body, hy, hR⟩ := HY.out (runsTo (uat u) s) (s, e - s) wr hJ (by simp only; omega) (by omega)
            dsimp only at hy
            rw [show ((e - s : Nat) : Int) = (e : Int) - (s : Int) by omega] at hy
            rw [← hrun] at hR
            have hesI : decide ((s : Int) < (e : Int)) = true := by simp; omega
            have HJE : Hid (runsTo (uat u) (min (e + 1) u.length) = runsTo (uat u) e) := hje
            have HB : Hid (uat u e = true) := heu
            have HPR : Hid _ := runs_prefix2 (f := uat u) heb heN
            clear hje heu hrun heb hfree hJ HY
            gi_wp2
            refine hR.mono ?_
            rintro e' W3 (⟨rfl, hJ3, hk3⟩ | ⟨rfl, hJx3⟩)
            · gi_wp2
              go_roundw
              case rel => exact ⟨e + 1, by go_num, by omega, .inr (by simpa using HB.out), by rw [HJE.out]; exact hJ3, kpE_t hK hk3⟩
              case measure => simp [intOf]; omega
            · gi_wp2
              refine bodyPost_ret (results_none rfl _ _ _) rfl ?_
              exact ⟨⟨_, rfl⟩, .inr ⟨_, HPR.out, hJx3⟩⟩
          · have := HEE.out; omega
    · have hltI : ¬ (s : Int) < (u.length : Int) := by omega
      rw [Nat.min_eq_right (by omega)] at hJ
      gi_wp2
      go_end0
      exact ⟨⟨_, rfl⟩, .inl hJ⟩

set_option maxHeartbeats 1000000 in
theorem free_in (F : Fence) (n : Nat) (h22 : F.fn 22) (hro : F.round = none) (g : Nat) (w : World) :
    CallsIn F n Try.prog 22 #[ptrV g] w fun e w' => e = .returned (.func (.func 30) #[] #[.pointer (some ⟨w.heap.size, 0, none⟩)]) ∧ w' = w.alloc (.cells #[ptrV g] 24) := by
  refine callsIn_of_wp Try.func22 rfl h22 ?_ hro
  simp only [Try.ntmps22, List.size_toArray, List.length_cons, List.length_nil, Nat.reduceAdd, Nat.reduceSub, Array.replicate_succ, Array.replicate_zero, List.push_toArray, List.append_toArray, List.nil_append, List.cons_append]
  gi_wp2
  go_ret
  exact ⟨rfl, rfl⟩

/-- A run that lies within N sectors. -/
abbrev RunIn (N : Nat) := { r : Nat × Nat // r.1 + r.2 ≤ N }

theorem free_stops (F : Fence) (n : Nat) (h30 : F.fn 30) (hro : F.round = none) (hn : 1 ≤ n) (Bs g b c : Nat) (u : List Bool) (hu : u.length ≤ 100000) (w : World) (hBl : Bs < w.heap.size) (hBs : w.cell? ⟨Bs, 0, none⟩ = some (ptrV g)) (hI : IsExt w g b c 51 u) :
    SeqStopsK F n Try.prog 30 #[.pointer (some ⟨Bs, 0, none⟩)] (fun x : RunIn u.length => #[Value.int .i64 (x.1.1 : Int), Value.int .i64 (x.1.2 : Int)]) (KpE g b Bs) (fun ys => ys.map (·.1) = runsTo (uat u) u.length) (fun pre => pre.map (·.1) <+: runsTo (uat u) u.length) (u.length + 1) w :=
  fun l J Jx W hW _ _ hY h0 => by
    refine (free1_in F n h30 hro hn l Bs g b c u hu (fun ys W' => ∃ zs : List (RunIn u.length), zs.map (·.1) = ys ∧ J zs W') (fun ys W' => ∃ zs : List (RunIn u.length), zs.map (·.1) = ys ∧ Jx zs W')
      ?_ W ((hW.cell (p := ⟨Bs, 0, none⟩) hBl).trans hBs) (hI.gr hW) ⟨[], rfl, h0⟩).mono ?_
    · rintro pre x W1 ⟨zs, rfl, hJ⟩ hx hlen
      refine (hY zs ⟨x, hx⟩ W1 hJ (by simpa using hlen)).mono ?_
      rintro e W' (⟨rfl, hJ', hK⟩ | ⟨rfl, hJ'⟩)
      · exact .inl ⟨rfl, ⟨_, by simp, hJ'⟩, hK⟩
      · exact .inr ⟨rfl, ⟨_, by simp, hJ'⟩⟩
    · rintro e W' ⟨he, ⟨ys, rfl, zs, hz, hJ⟩ | ⟨pre, hp, zs, rfl, hJ⟩⟩
      · exact ⟨he, .inl ⟨zs, hz, hJ⟩⟩
      · exact ⟨he, .inr ⟨zs, hp, hJ⟩⟩
end Go.Proofs.Ythhpdlkkmgmdeaa
