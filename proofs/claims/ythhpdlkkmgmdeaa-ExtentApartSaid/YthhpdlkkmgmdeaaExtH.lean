/-
  The walk of law9's ExtentApart: it answers true.
-/
import Derived.Test.YthhpdlkkmgmdeaaExtG
import Derived.Test.YthhpdlkkmgmdeaaExtK
import Derived.Test.YthhpdlkkmgmdeaaRowP
set_option linter.unusedVariables false
set_option linter.unusedSimpArgs false
namespace Go.Proofs.Ythhpdlkkmgmdeaa
open Go Go.RowKit

/-- What holds between two rounds of ExtentApart. -/
structure Apart (w W : World) (g b cb bo N : Nat) (u : List Bool) (ow : Nat → Int) : Prop where
  ext : IsExt W g b cb 51 u
  len : u.length = N
  own : IsOwn W bo N ow
  agree : Agree u ow N
  gr : Gr w W
  hb : w.heap.size ≤ b
  hbo : w.heap.size ≤ bo
  nb : bo ≠ b
  ng : bo ≠ g

theorem info_int : (Try.prog.info? 3).map (fun i => (i.zero, i.size, i.bytes)) = some (some (.int .i64 0), 1, 8) := by kernel_rfl

theorem own_made {w : World} {base bo N c : Nat} (ho : w.ownsRow base 3 1 (.slice (some ⟨bo, 0, none⟩) N c) N (madeCells (Value.int .i64 0).cells (N * 1)).toList) (hN : 1 ≤ N) : IsOwn w bo N (fun _ => 0) := by
  rw [show (Value.int .i64 0).cells = #[Value.int .i64 0] from rfl, toList_madeCells_one, Nat.mul_one] at ho
  obtain ⟨hl, hv⟩ := ho
  rcases hv with ⟨hv, _⟩ | ⟨b', cap, cur, hv, hb, hgg, h1, h2, h3, h4⟩
  · cases hv
  · injection hv with e1 _ e3
    injection e1 with e1
    injection e1 with e1
    subst e1 e3
    refine ⟨fun j hj => row_cell hgg j ?_, fun j hj => by simp [World.frozen?, hgg], (Array.getElem?_eq_some_iff.1 hgg).1⟩
    have hj2 : (cur.toList.take (N * 1))[j]? = some (.int .i64 0) := by
      rw [h4]; simp [hj]
    rw [List.getElem?_take, if_pos (by omega)] at hj2
    simpa using hj2

set_option maxRecDepth 100000 in
set_option maxHeartbeats 8000000 in
theorem apart_core (N L M cL cM : Nat) (A B : Option Addr) (zs : Nat → Int) (bk : Nat → Bool) (w : World)
    (hz : ∀ i, i < L → ∃ b0 o0, A = some ⟨b0, o0, none⟩ ∧ w.cell? ⟨b0, o0 + i, none⟩ = some (.int .i64 (zs i))) (hbk : ∀ i, i < M → ∃ b0 o0, B = some ⟨b0, o0, none⟩ ∧ w.cell? ⟨b0, o0 + i, none⟩ = some (.bool (bk i)))
    (hN1 : 1 ≤ N) (hN2 : N ≤ 200) (hL : L ≤ 50) (hM : M ≤ 50) :
    Calls Try.prog 4 #[.int .i64 N, .slice A L cL, .slice B M cM] w fun e w' => e = .returned (.bool true) ∧ Gr w w' := by
  have HA : Hid _ := fun w' => awake9 w'
  have HZ : Hid _ := hz
  have HBK : Hid _ := hbk
  clear hz hbk
  obtain ⟨i0, hi, hz0, hz1, hz2⟩ := info_parts info_int
  have d1 : decide ((N : Int) < 1) = false := by simp; omega
  have d2 : decide (200 < (N : Int)) = false := by simp; omega
  have d3 : decide (50 < (L : Int)) = false := by simp; omega
  have d4 : decide (50 < (M : Int)) = false := by simp; omega
  go_enter Try.func4, Try.ntmps4
  go_wp2_with fail
  refine (new_any N w hN1 (by omega)).mono ?_
  rintro e w1 ⟨g, b, cb, rfl, hI1, hG1, hgl, hbl⟩
  have hg1 : g < w1.heap.size := (Array.getElem?_eq_some_iff.1 hI1.hd).1
  go_wp2_with (at_make; refine wpList_make_full w1 rfl (.tmp 48) (.tmp 48) 45 rfl w1.heap.size 3 i0 (.int .i64 0) 1 Try.underlying45 hi hz0 hz1 .i64 .i64 (N : Int) (N : Int) N rfl rfl rfl rfl (by rw [hz2]; omega) (by unfold maxLen; omega) (Nat.le_refl _) ?_; intro w2 hown hgr)
  have hst : Apart w w2 g b cb w1.heap.size N (List.replicate N false) (fun _ => 0) :=
    ⟨hI1.kept hgr (by simp) (by simp), by simp, own_made hown hN1, fun j hj => by simp [uat, List.getD, hj], hG1.grown hgr (by simp), hbl, hG1.size, by have := hI1.bl; omega, by omega⟩
  have HST : Hid _ := hst
  clear hst hown hgr hI1 hG1 hgl hbl hg1 hi hz0 hz1 hz2
  generalize w1.heap.size = bo at *
  go_loopw [10, 11] (fun vu vi wr => ∃ (i : Nat) (u : List Bool) (ow : Nat → Int), vi = .int .i64 (i : Int) ∧ vu = .int .i64 (usedR u : Int) ∧ i ≤ L ∧ Hid (Apart w wr g b cb bo N u ow)) (fun _ vi _ => L - (intOf vi).toNat)
  case atStart => exact ⟨0, _, _, rfl, by simp [usedR, List.countP_replicate], Nat.zero_le _, HST⟩
  case round =>
    clear HST
    obtain ⟨i, u, ow, rfl, rfl, hiL, hS⟩ := ‹∃ (i : Nat) (u : List Bool) (ow : Nat → Int), _›
    by_cases hlt : i < L
    · have hltI : (i : Int) < (L : Int) := by omega
      obtain ⟨b0, o0, rfl, hc0⟩ := HZ.out i hlt
      have cz := hS.out.gr.cell hc0
      clear hc0
      obtain ⟨kz, hkz⟩ := Int.eq_ofNat_of_zero_le (Int.emod_nonneg (zs i) (show (12 : Int) ≠ 0 by omega))
      have hk12 : kz < 12 := by have := Int.emod_lt_of_pos (zs i) (show (0 : Int) < 12 by omega); omega
      have HRD : Hid (∀ w' : World, Calls Try.prog 21 #[.int .i64 (zs i), .int .i64 12] w' fun e w'' => e = .returned (.int .i64 (kz : Int)) ∧ w' = w'') := fun w' => by have := roundA (zs i) 12 w' (by omega) (by omega); rwa [hkz] at this
      clear hkz
      go_wp2_with fail
      refine (HRD.out _).mono ?_
      rintro e w3 ⟨rfl, rfl⟩
      go_wp2_with fail
      have hK : 1 ≤ kz + 1 := by omega
      go_loopw [13, 14, 15] (fun vw vr va wr2 => ∃ a : Nat, va = .int .i64 (a : Int) ∧ a ≤ N ∧ wr = wr2 ∧ ((∃ run : Nat, vw = .int .i64 (-1) ∧ vr = .int .i64 (run : Int) ∧ run ≤ a ∧ Hid (Seek u (kz + 1) a run)) ∨ (∃ s : Nat, ∃ rv : Int, vw = .int .i64 (s : Int) ∧ vr = .int .i64 rv ∧ s + (kz + 1) ≤ N ∧ Hid (AllFree (uat u) s (kz + 1) ∧ ∀ x, x < s → ¬ AllFree (uat u) x (kz + 1))))) (fun _ _ va _ => N - (intOf va).toNat)
      case atStart => exact ⟨0, rfl, Nat.zero_le _, rfl, .inl ⟨0, rfl, rfl, Nat.le_refl _, Seek.start u hK⟩⟩
      case round =>
        obtain ⟨a, rfl, haN, rfl, hcase⟩ := ‹∃ a : Nat, _›
        rcases hcase with ⟨run, rfl, rfl, hra, hseek⟩ | ⟨s, rv, rfl, rfl, hsN, hfit⟩
        · by_cases haN2 : a < N
          · have haI : (a : Int) < (N : Int) := by omega
            have co := hS.out.own.cs a haN2
            have hag := hS.out.agree a haN2
            cases hua : uat u a with
            | true =>
              have hne : ¬ ow a = 0 := fun h0 => by rw [hag.1 h0] at hua; cases hua
              have hnb : (ow a == 0) = false := by simp [hne]
              have h0k : ((0 : Int) == 1 + (kz : Int)) = false := by simp; omega
              have HSK : Hid _ := hseek.out.used hK hua
              clear hag hua
              generalize ow a = oa at *
              as_aux_lemma =>
                go_wp2_with fail
                go_roundw
                case rel => exact ⟨a + 1, by go_num, by omega, by trivial, .inl ⟨0, rfl, rfl, Nat.zero_le _, HSK⟩⟩
                case measure => simp [intOf]; omega
            | false =>
              have h0 : ow a = 0 := hag.2 hua
              rw [h0] at co
              by_cases hrk : run + 1 = kz + 1
              · have hrb : ((run : Int) + 1 == 1 + (kz : Int)) = true := by simp; omega
                have HFT : Hid _ := hseek.out.hit hua hrk
                have hs1 : kz ≤ a := by omega
                obtain ⟨s, hs⟩ : ∃ s, a = s + kz := ⟨a - kz, by omega⟩
                have he : a + 1 - (kz + 1) = s := by omega
                rw [he] at HFT
                have HS2 : Hid _ := hs
                clear hag hua h0 he hs hseek
                as_aux_lemma =>
                  go_wp2_with fail
                  go_roundw
                  case rel => exact ⟨a + 1, by go_num, by omega, by trivial, .inr ⟨s, (run : Int) + 1, (by have := HS2.out; first | rfl | (congr 1; omega)), rfl, (by have := HS2.out; omega), HFT⟩⟩
                  case measure => simp [intOf]; omega
              · have hrb : ((run : Int) + 1 == 1 + (kz : Int)) = false := by simp; omega
                have HSK : Hid _ := hseek.out.go hua (by omega)
                clear hag hua h0 hseek hrk
                as_aux_lemma =>
                  go_wp2_with fail
                  go_roundw
                  case rel => exact ⟨a + 1, by go_num, by omega, by trivial, .inl ⟨run + 1, rfl, by go_num, by omega, HSK⟩⟩
                  case measure => simp [intOf]; omega
          · have haE : a = N := by omega
            have haI : ¬ (a : Int) < (N : Int) := by omega
            have haD : decide ((a : Int) < (N : Int)) = false := by simp; omega
            have htk : takeR u (1 + (kz : Int)) = (0, 6, u) := by
              have h1 := hseek.out
              rw [haE, ← hS.out.len] at h1
              have := h1.done hK
              rwa [show ((kz + 1 : Nat) : Int) = 1 + (kz : Int) by omega] at this
            have HTK : Hid _ := htk
            clear htk haE hseek
            as_aux_lemma =>
              go_wp2_with fail
              refine (take_any g b cb u (1 + (kz : Int)) _ hS.out.ext (by have := hS.out.len; omega) (by omega)).mono ?_
              rintro e w4 ⟨rfl, hI4, hg4⟩
              rw [HTK.out] at hI4 ⊢
              have HA4 : Hid (Apart w w4 g b cb bo N u ow) := ⟨hI4, hS.out.len, hS.out.own.kept hg4 (fun e => hS.out.nb (by injection e)), hS.out.agree, gr_gb hS.out.gr hg4 hS.out.hb, hS.out.hb, hS.out.hbo, hS.out.nb, hS.out.ng⟩
              clear hI4 hg4
              go_wp2_with fail
              go_roundw
              case rel => exact ⟨i + 1, u, ow, by go_num, rfl, hlt, HA4⟩
              case measure => simp [intOf]; omega
        · have hwd : decide ((s : Int) < 0) = false := by simp
          have htk : takeR u (1 + (kz : Int)) = ((s : Int), 0, setR u s true (kz + 1)) := by
            have := take_hit hK hfit.out.1 (by rw [hS.out.len]; exact hsN) hfit.out.2
            rwa [show ((kz + 1 : Nat) : Int) = 1 + (kz : Int) by omega] at this
          have HTK : Hid _ := htk
          clear htk
          have HFA : Hid (AllFree (uat u) s (kz + 1)) := hfit.out.1
          have hub : usedR u ≤ N := by have := List.countP_le_length (p := id) (l := u); have := hS.out.len; unfold usedR; omega
          have hlt2 : i < 1000 := by omega
          clear hfit
          by_cases haI : (a : Int) < (N : Int)
          · have haD : decide ((a : Int) < (N : Int)) = true := by simp; omega
            clear haN
            go_wp2_with fail
            refine (take_any g b cb u (1 + (kz : Int)) _ hS.out.ext (by have := hS.out.len; omega) (by omega)).mono ?_
            rintro e w4 ⟨rfl, hI4, hg4⟩
            rw [HTK.out] at hI4 ⊢
            have HH4 : Hid (IsExt w4 g b cb 51 (setR u s true (kz + 1)) ∧ IsOwn w4 bo N (fillO ow s ((i : Int) + 1) 0) ∧ Gr w w4) := ⟨hI4, hS.out.own.kept hg4 (fun e => hS.out.nb (Option.some.inj e)), gr_gb hS.out.gr hg4 hS.out.hb⟩
            clear hI4 hg4
            go_wp2_with fail
            go_loopw [18] (fun vx wr3 => ∃ q : Nat, vx = .int .i64 ((s : Int) + (q : Int)) ∧ q ≤ kz + 1 ∧ Hid (IsExt wr3 g b cb 51 (setR u s true (kz + 1)) ∧ IsOwn wr3 bo N (fillO ow s ((i : Int) + 1) q) ∧ Gr w wr3)) (fun vx _ => s + (kz + 1) - (intOf vx).toNat)
            case atStart => exact ⟨0, by simp, Nat.zero_le _, HH4⟩
            case round =>
              clear HH4
              obtain ⟨q, rfl, hq, hH⟩ := ‹∃ q : Nat, _›
              by_cases hqk : q < kz + 1
              · have hqI : (s : Int) + (q : Int) < (s : Int) + (1 + (kz : Int)) := by omega
                have c1 := hH.out.2.1.cs (s + q) (by omega)
                have f1 := hH.out.2.1.fz (s + q) (by omega)
                have hj : ((s : Int) + (q : Int)) < (N : Int) := by omega
                have hne1 : some g ≠ some (⟨bo, s + q, none⟩ : Addr).block := fun e => hS.out.ng (Option.some.inj e).symm
                have hne2 : some b ≠ some (⟨bo, s + q, none⟩ : Addr).block := fun e => hS.out.nb (Option.some.inj e).symm
                have hg5 := gb_set wr ⟨bo, s + q, none⟩ (.int .i64 ((i : Int) + 1))
                have HNX : Hid (IsExt (wr.setCell ⟨bo, s + q, none⟩ (.int .i64 ((i : Int) + 1))) g b cb 51 (setR u s true (kz + 1)) ∧ IsOwn (wr.setCell ⟨bo, s + q, none⟩ (.int .i64 ((i : Int) + 1))) bo N (fillO ow s ((i : Int) + 1) (q + 1)) ∧ Gr w (wr.setCell ⟨bo, s + q, none⟩ (.int .i64 ((i : Int) + 1)))) :=
                  ⟨hH.out.1.kept hg5 hne1 hne2, hH.out.2.1.set (by omega) _, hH.out.2.2.setCell (by have := hS.out.hbo; simpa using this) _⟩
                generalize fillO ow s ((i : Int) + 1) q (s + q) = oq at *
                clear hne1 hne2 hg5 hH
                as_aux_lemma =>
                  go_wp2_with fail
                  go_roundw
                  case rel => exact ⟨q + 1, by go_num, hqk, HNX⟩
                  case measure => simp [intOf]; omega
              · have hqI : ¬ (s : Int) + (q : Int) < (s : Int) + (1 + (kz : Int)) := by omega
                have hqe : q = kz + 1 := by omega
                subst hqe
                by_cases hiM : i < M
                · have hiMI : (i : Int) < (M : Int) := by omega
                  have hiMD : decide ((i : Int) < (M : Int)) = true := by simp; omega
                  obtain ⟨b9, o9, rfl, hc9⟩ := HBK.out i hiM
                  have cbk := hH.out.2.2.cell hc9
                  clear hc9
                  cases hbki : bk i with
                  | true =>
                    rw [hbki] at cbk
                    clear hbki
                    have hgb := give_back u s (kz + 1) (by omega) (by have := hS.out.len; omega) HFA.out
                    rw [show ((kz + 1 : Nat) : Int) = 1 + (kz : Int) by omega] at hgb
                    have HGB : Hid _ := hgb
                    clear hgb
                    go_wp2_with fail
                    refine (give_any g b cb (setR u s true (kz + 1)) (s : Int) (1 + (kz : Int)) _ hH.out.1 (by rw [setR_length]; have := hS.out.len; omega) (by omega) (by omega)).mono ?_
                    rintro e w5 ⟨rfl, hI5, hg5⟩
                    rw [HGB.out.1] at hI5 ⊢
                    have hO5 := hH.out.2.1.kept hg5 (fun e => hS.out.nb (Option.some.inj e))
                    have hG5 := gr_gb hH.out.2.2 hg5 hS.out.hb
                    clear hg5 hH
                    go_wp2_with fail
                    refine (give_any g b cb u (s : Int) (1 + (kz : Int)) _ hI5 (by have := hS.out.len; omega) (by omega) (by omega)).mono ?_
                    rintro e w6 ⟨rfl, hI6, hg6⟩
                    rw [HGB.out.2] at hI6 ⊢
                    have hO6 := hO5.kept hg6 (fun e => hS.out.nb (Option.some.inj e))
                    have hG6 := gr_gb hG5 hg6 hS.out.hb
                    have HH6 : Hid (IsExt w6 g b cb 51 u ∧ IsOwn w6 bo N (fillO (fillO ow s ((i : Int) + 1) (kz + 1)) s 0 0) ∧ Gr w w6) := ⟨hI6, hO6, hG6⟩
                    clear hg6 hI5 hO5 hG5 hI6 hO6 hG6
                    go_wp2_with fail
                    go_loopw [19] (fun vx wr3 => ∃ q : Nat, vx = .int .i64 ((s : Int) + (q : Int)) ∧ q ≤ kz + 1 ∧ Hid (IsExt wr3 g b cb 51 u ∧ IsOwn wr3 bo N (fillO (fillO ow s ((i : Int) + 1) (kz + 1)) s 0 q) ∧ Gr w wr3)) (fun vx _ => s + (kz + 1) - (intOf vx).toNat)
                    case atStart => exact ⟨0, by simp, Nat.zero_le _, HH6⟩
                    case round =>
                      clear HH6
                      obtain ⟨q, rfl, hq, hH⟩ := ‹∃ q : Nat, _›
                      by_cases hqk : q < kz + 1
                      · have hqI : (s : Int) + (q : Int) < (s : Int) + (1 + (kz : Int)) := by omega
                        have c1 := hH.out.2.1.cs (s + q) (by omega)
                        have f1 := hH.out.2.1.fz (s + q) (by omega)
                        have hj : ((s : Int) + (q : Int)) < (N : Int) := by omega
                        have hne1 : some g ≠ some (⟨bo, s + q, none⟩ : Addr).block := fun e => hS.out.ng (Option.some.inj e).symm
                        have hne2 : some b ≠ some (⟨bo, s + q, none⟩ : Addr).block := fun e => hS.out.nb (Option.some.inj e).symm
                        have hg5 := gb_set wr ⟨bo, s + q, none⟩ (.int .i64 0)
                        have HNX : Hid (IsExt (wr.setCell ⟨bo, s + q, none⟩ (.int .i64 0)) g b cb 51 u ∧ IsOwn (wr.setCell ⟨bo, s + q, none⟩ (.int .i64 0)) bo N (fillO (fillO ow s ((i : Int) + 1) (kz + 1)) s 0 (q + 1)) ∧ Gr w (wr.setCell ⟨bo, s + q, none⟩ (.int .i64 0))) :=
                          ⟨hH.out.1.kept hg5 hne1 hne2, hH.out.2.1.set (by omega) _, hH.out.2.2.setCell (by have := hS.out.hbo; simpa using this) _⟩
                        generalize fillO (fillO ow s ((i : Int) + 1) (kz + 1)) s 0 q (s + q) = oq at *
                        clear hne1 hne2 hg5 hH
                        as_aux_lemma =>
                          go_wp2_with fail
                          go_roundw
                          case rel => exact ⟨q + 1, by go_num, hqk, HNX⟩
                          case measure => simp [intOf]; omega
                      · have hqI : ¬ (s : Int) + (q : Int) < (s : Int) + (1 + (kz : Int)) := by omega
                        have hqe : q = kz + 1 := by omega
                        subst hqe
                        have HAP : Hid (Apart w wr g b cb bo N u (fillO (fillO ow s ((i : Int) + 1) (kz + 1)) s 0 (kz + 1))) := ⟨hH.out.1, hS.out.len, hH.out.2.1, hS.out.agree.give hS.out.len hsN HFA.out, hH.out.2.2, hS.out.hb, hS.out.hbo, hS.out.nb, hS.out.ng⟩
                        clear hH
                        as_aux_lemma =>
                          go_wp2_with fail
                          refine (used_any g b cb u _ HAP.out.ext (by have := HAP.out.len; omega)).mono ?_
                          rintro e w7 ⟨rfl, rfl⟩
                          go_wp2_with fail
                          go_roundw
                          case rel => exact ⟨i + 1, u, _, by go_num, rfl, hlt, HAP⟩
                          case measure => simp [intOf]; omega
                  | false =>
                    rw [hbki] at cbk
                    clear hbki
                    have HAP : Hid (Apart w wr g b cb bo N (setR u s true (kz + 1)) (fillO ow s ((i : Int) + 1) (kz + 1))) := ⟨hH.out.1, by rw [setR_length]; exact hS.out.len, hH.out.2.1, hS.out.agree.take hS.out.len hsN (by omega), hH.out.2.2, hS.out.hb, hS.out.hbo, hS.out.nb, hS.out.ng⟩
                    have hus := used_setR u s (kz + 1) (by have := hS.out.len; omega) HFA.out
                    have husI : ((usedR (setR u s true (kz + 1)) : Nat) : Int) = (usedR u : Int) + (1 + (kz : Int)) := by omega
                    have HUS : Hid _ := husI
                    clear hH hus husI
                    as_aux_lemma =>
                      go_wp2_with fail
                      refine (used_any g b cb (setR u s true (kz + 1)) _ HAP.out.ext (by have := HAP.out.len; omega)).mono ?_
                      rintro e w7 ⟨rfl, rfl⟩
                      rw [HUS.out]
                      go_wp2_with fail
                      go_roundw
                      case rel => exact ⟨i + 1, setR u s true (kz + 1), _, by go_num, by rw [HUS.out], hlt, HAP⟩
                      case measure => simp [intOf]; omega
                · have hiMI : ¬ (i : Int) < (M : Int) := by omega
                  have hiMD : decide ((i : Int) < (M : Int)) = false := by simp; omega
                  have HAP : Hid (Apart w wr g b cb bo N (setR u s true (kz + 1)) (fillO ow s ((i : Int) + 1) (kz + 1))) := ⟨hH.out.1, by rw [setR_length]; exact hS.out.len, hH.out.2.1, hS.out.agree.take hS.out.len hsN (by omega), hH.out.2.2, hS.out.hb, hS.out.hbo, hS.out.nb, hS.out.ng⟩
                  have hus := used_setR u s (kz + 1) (by have := hS.out.len; omega) HFA.out
                  have husI : ((usedR (setR u s true (kz + 1)) : Nat) : Int) = (usedR u : Int) + (1 + (kz : Int)) := by omega
                  have HUS : Hid _ := husI
                  clear hH hus husI
                  as_aux_lemma =>
                    go_wp2_with fail
                    refine (used_any g b cb (setR u s true (kz + 1)) _ HAP.out.ext (by have := HAP.out.len; omega)).mono ?_
                    rintro e w7 ⟨rfl, rfl⟩
                    rw [HUS.out]
                    go_wp2_with fail
                    go_roundw
                    case rel => exact ⟨i + 1, setR u s true (kz + 1), _, by go_num, by rw [HUS.out], hlt, HAP⟩
                    case measure => simp [intOf]; omega
          · have haD : decide ((a : Int) < (N : Int)) = false := by simp; omega
            clear haN
            go_wp2_with fail
            refine (take_any g b cb u (1 + (kz : Int)) _ hS.out.ext (by have := hS.out.len; omega) (by omega)).mono ?_
            rintro e w4 ⟨rfl, hI4, hg4⟩
            rw [HTK.out] at hI4 ⊢
            have HH4 : Hid (IsExt w4 g b cb 51 (setR u s true (kz + 1)) ∧ IsOwn w4 bo N (fillO ow s ((i : Int) + 1) 0) ∧ Gr w w4) := ⟨hI4, hS.out.own.kept hg4 (fun e => hS.out.nb (Option.some.inj e)), gr_gb hS.out.gr hg4 hS.out.hb⟩
            clear hI4 hg4
            go_wp2_with fail
            go_loopw [18] (fun vx wr3 => ∃ q : Nat, vx = .int .i64 ((s : Int) + (q : Int)) ∧ q ≤ kz + 1 ∧ Hid (IsExt wr3 g b cb 51 (setR u s true (kz + 1)) ∧ IsOwn wr3 bo N (fillO ow s ((i : Int) + 1) q) ∧ Gr w wr3)) (fun vx _ => s + (kz + 1) - (intOf vx).toNat)
            case atStart => exact ⟨0, by simp, Nat.zero_le _, HH4⟩
            case round =>
              clear HH4
              obtain ⟨q, rfl, hq, hH⟩ := ‹∃ q : Nat, _›
              by_cases hqk : q < kz + 1
              · have hqI : (s : Int) + (q : Int) < (s : Int) + (1 + (kz : Int)) := by omega
                have c1 := hH.out.2.1.cs (s + q) (by omega)
                have f1 := hH.out.2.1.fz (s + q) (by omega)
                have hj : ((s : Int) + (q : Int)) < (N : Int) := by omega
                have hne1 : some g ≠ some (⟨bo, s + q, none⟩ : Addr).block := fun e => hS.out.ng (Option.some.inj e).symm
                have hne2 : some b ≠ some (⟨bo, s + q, none⟩ : Addr).block := fun e => hS.out.nb (Option.some.inj e).symm
                have hg5 := gb_set wr ⟨bo, s + q, none⟩ (.int .i64 ((i : Int) + 1))
                have HNX : Hid (IsExt (wr.setCell ⟨bo, s + q, none⟩ (.int .i64 ((i : Int) + 1))) g b cb 51 (setR u s true (kz + 1)) ∧ IsOwn (wr.setCell ⟨bo, s + q, none⟩ (.int .i64 ((i : Int) + 1))) bo N (fillO ow s ((i : Int) + 1) (q + 1)) ∧ Gr w (wr.setCell ⟨bo, s + q, none⟩ (.int .i64 ((i : Int) + 1)))) :=
                  ⟨hH.out.1.kept hg5 hne1 hne2, hH.out.2.1.set (by omega) _, hH.out.2.2.setCell (by have := hS.out.hbo; simpa using this) _⟩
                generalize fillO ow s ((i : Int) + 1) q (s + q) = oq at *
                clear hne1 hne2 hg5 hH
                as_aux_lemma =>
                  go_wp2_with fail
                  go_roundw
                  case rel => exact ⟨q + 1, by go_num, hqk, HNX⟩
                  case measure => simp [intOf]; omega
              · have hqI : ¬ (s : Int) + (q : Int) < (s : Int) + (1 + (kz : Int)) := by omega
                have hqe : q = kz + 1 := by omega
                subst hqe
                by_cases hiM : i < M
                · have hiMI : (i : Int) < (M : Int) := by omega
                  have hiMD : decide ((i : Int) < (M : Int)) = true := by simp; omega
                  obtain ⟨b9, o9, rfl, hc9⟩ := HBK.out i hiM
                  have cbk := hH.out.2.2.cell hc9
                  clear hc9
                  cases hbki : bk i with
                  | true =>
                    rw [hbki] at cbk
                    clear hbki
                    have hgb := give_back u s (kz + 1) (by omega) (by have := hS.out.len; omega) HFA.out
                    rw [show ((kz + 1 : Nat) : Int) = 1 + (kz : Int) by omega] at hgb
                    have HGB : Hid _ := hgb
                    clear hgb
                    go_wp2_with fail
                    refine (give_any g b cb (setR u s true (kz + 1)) (s : Int) (1 + (kz : Int)) _ hH.out.1 (by rw [setR_length]; have := hS.out.len; omega) (by omega) (by omega)).mono ?_
                    rintro e w5 ⟨rfl, hI5, hg5⟩
                    rw [HGB.out.1] at hI5 ⊢
                    have hO5 := hH.out.2.1.kept hg5 (fun e => hS.out.nb (Option.some.inj e))
                    have hG5 := gr_gb hH.out.2.2 hg5 hS.out.hb
                    clear hg5 hH
                    go_wp2_with fail
                    refine (give_any g b cb u (s : Int) (1 + (kz : Int)) _ hI5 (by have := hS.out.len; omega) (by omega) (by omega)).mono ?_
                    rintro e w6 ⟨rfl, hI6, hg6⟩
                    rw [HGB.out.2] at hI6 ⊢
                    have hO6 := hO5.kept hg6 (fun e => hS.out.nb (Option.some.inj e))
                    have hG6 := gr_gb hG5 hg6 hS.out.hb
                    have HH6 : Hid (IsExt w6 g b cb 51 u ∧ IsOwn w6 bo N (fillO (fillO ow s ((i : Int) + 1) (kz + 1)) s 0 0) ∧ Gr w w6) := ⟨hI6, hO6, hG6⟩
                    clear hg6 hI5 hO5 hG5 hI6 hO6 hG6
                    go_wp2_with fail
                    go_loopw [19] (fun vx wr3 => ∃ q : Nat, vx = .int .i64 ((s : Int) + (q : Int)) ∧ q ≤ kz + 1 ∧ Hid (IsExt wr3 g b cb 51 u ∧ IsOwn wr3 bo N (fillO (fillO ow s ((i : Int) + 1) (kz + 1)) s 0 q) ∧ Gr w wr3)) (fun vx _ => s + (kz + 1) - (intOf vx).toNat)
                    case atStart => exact ⟨0, by simp, Nat.zero_le _, HH6⟩
                    case round =>
                      clear HH6
                      obtain ⟨q, rfl, hq, hH⟩ := ‹∃ q : Nat, _›
                      by_cases hqk : q < kz + 1
                      · have hqI : (s : Int) + (q : Int) < (s : Int) + (1 + (kz : Int)) := by omega
                        have c1 := hH.out.2.1.cs (s + q) (by omega)
                        have f1 := hH.out.2.1.fz (s + q) (by omega)
                        have hj : ((s : Int) + (q : Int)) < (N : Int) := by omega
                        have hne1 : some g ≠ some (⟨bo, s + q, none⟩ : Addr).block := fun e => hS.out.ng (Option.some.inj e).symm
                        have hne2 : some b ≠ some (⟨bo, s + q, none⟩ : Addr).block := fun e => hS.out.nb (Option.some.inj e).symm
                        have hg5 := gb_set wr ⟨bo, s + q, none⟩ (.int .i64 0)
                        have HNX : Hid (IsExt (wr.setCell ⟨bo, s + q, none⟩ (.int .i64 0)) g b cb 51 u ∧ IsOwn (wr.setCell ⟨bo, s + q, none⟩ (.int .i64 0)) bo N (fillO (fillO ow s ((i : Int) + 1) (kz + 1)) s 0 (q + 1)) ∧ Gr w (wr.setCell ⟨bo, s + q, none⟩ (.int .i64 0))) :=
                          ⟨hH.out.1.kept hg5 hne1 hne2, hH.out.2.1.set (by omega) _, hH.out.2.2.setCell (by have := hS.out.hbo; simpa using this) _⟩
                        generalize fillO (fillO ow s ((i : Int) + 1) (kz + 1)) s 0 q (s + q) = oq at *
                        clear hne1 hne2 hg5 hH
                        as_aux_lemma =>
                          go_wp2_with fail
                          go_roundw
                          case rel => exact ⟨q + 1, by go_num, hqk, HNX⟩
                          case measure => simp [intOf]; omega
                      · have hqI : ¬ (s : Int) + (q : Int) < (s : Int) + (1 + (kz : Int)) := by omega
                        have hqe : q = kz + 1 := by omega
                        subst hqe
                        have HAP : Hid (Apart w wr g b cb bo N u (fillO (fillO ow s ((i : Int) + 1) (kz + 1)) s 0 (kz + 1))) := ⟨hH.out.1, hS.out.len, hH.out.2.1, hS.out.agree.give hS.out.len hsN HFA.out, hH.out.2.2, hS.out.hb, hS.out.hbo, hS.out.nb, hS.out.ng⟩
                        clear hH
                        as_aux_lemma =>
                          go_wp2_with fail
                          refine (used_any g b cb u _ HAP.out.ext (by have := HAP.out.len; omega)).mono ?_
                          rintro e w7 ⟨rfl, rfl⟩
                          go_wp2_with fail
                          go_roundw
                          case rel => exact ⟨i + 1, u, _, by go_num, rfl, hlt, HAP⟩
                          case measure => simp [intOf]; omega
                  | false =>
                    rw [hbki] at cbk
                    clear hbki
                    have HAP : Hid (Apart w wr g b cb bo N (setR u s true (kz + 1)) (fillO ow s ((i : Int) + 1) (kz + 1))) := ⟨hH.out.1, by rw [setR_length]; exact hS.out.len, hH.out.2.1, hS.out.agree.take hS.out.len hsN (by omega), hH.out.2.2, hS.out.hb, hS.out.hbo, hS.out.nb, hS.out.ng⟩
                    have hus := used_setR u s (kz + 1) (by have := hS.out.len; omega) HFA.out
                    have husI : ((usedR (setR u s true (kz + 1)) : Nat) : Int) = (usedR u : Int) + (1 + (kz : Int)) := by omega
                    have HUS : Hid _ := husI
                    clear hH hus husI
                    as_aux_lemma =>
                      go_wp2_with fail
                      refine (used_any g b cb (setR u s true (kz + 1)) _ HAP.out.ext (by have := HAP.out.len; omega)).mono ?_
                      rintro e w7 ⟨rfl, rfl⟩
                      rw [HUS.out]
                      go_wp2_with fail
                      go_roundw
                      case rel => exact ⟨i + 1, setR u s true (kz + 1), _, by go_num, by rw [HUS.out], hlt, HAP⟩
                      case measure => simp [intOf]; omega
                · have hiMI : ¬ (i : Int) < (M : Int) := by omega
                  have hiMD : decide ((i : Int) < (M : Int)) = false := by simp; omega
                  have HAP : Hid (Apart w wr g b cb bo N (setR u s true (kz + 1)) (fillO ow s ((i : Int) + 1) (kz + 1))) := ⟨hH.out.1, by rw [setR_length]; exact hS.out.len, hH.out.2.1, hS.out.agree.take hS.out.len hsN (by omega), hH.out.2.2, hS.out.hb, hS.out.hbo, hS.out.nb, hS.out.ng⟩
                  have hus := used_setR u s (kz + 1) (by have := hS.out.len; omega) HFA.out
                  have husI : ((usedR (setR u s true (kz + 1)) : Nat) : Int) = (usedR u : Int) + (1 + (kz : Int)) := by omega
                  have HUS : Hid _ := husI
                  clear hH hus husI
                  as_aux_lemma =>
                    go_wp2_with fail
                    refine (used_any g b cb (setR u s true (kz + 1)) _ HAP.out.ext (by have := HAP.out.len; omega)).mono ?_
                    rintro e w7 ⟨rfl, rfl⟩
                    rw [HUS.out]
                    go_wp2_with fail
                    go_roundw
                    case rel => exact ⟨i + 1, setR u s true (kz + 1), _, by go_num, by rw [HUS.out], hlt, HAP⟩
                    case measure => simp [intOf]; omega
    · have hltI : ¬ (i : Int) < (L : Int) := by omega
      go_wp2_with fail
      refine (HA.out _).mono ?_
      rintro e w9 ⟨rfl, hG9⟩
      go_wp2_with fail
      go_ret
      exact ⟨rfl, hS.out.gr.trans hG9⟩

set_option maxRecDepth 100000 in
theorem apart_early (n : Int) (L M cL cM : Nat) (A B : Option Addr) (w : World) (h : n < 1 ∨ 200 < n ∨ 50 < L ∨ 50 < M) :
    Calls Try.prog 4 #[.int .i64 n, .slice A L cL, .slice B M cM] w fun e w' => e = .returned (.bool true) ∧ Gr w w' := by
  have HA : Hid _ := fun w' => awake9 w'
  have H : Hid _ := h
  clear h
  go_enter Try.func4, Try.ntmps4
  by_cases h1 : n < 1
  · have d1 : decide (n < 1) = true := by simp; omega
    go_wp2_with fail
    refine (HA.out _).mono ?_
    rintro e w' ⟨rfl, hG⟩
    go_wp2_with fail
    go_ret
    exact ⟨rfl, hG⟩
  · have d1 : decide (n < 1) = false := by simp; omega
    by_cases h2 : 200 < n
    · have d2 : decide (200 < n) = true := by simp; omega
      go_wp2_with fail
      refine (HA.out _).mono ?_
      rintro e w' ⟨rfl, hG⟩
      go_wp2_with fail
      go_ret
      exact ⟨rfl, hG⟩
    · have d2 : decide (200 < n) = false := by simp; omega
      by_cases h3 : 50 < (L : Int)
      · have d3 : decide (50 < (L : Int)) = true := by simp; omega
        go_wp2_with fail
        refine (HA.out _).mono ?_
        rintro e w' ⟨rfl, hG⟩
        go_wp2_with fail
        go_ret
        exact ⟨rfl, hG⟩
      · have d3 : decide (50 < (L : Int)) = false := by simp; omega
        have h4 : 50 < (M : Int) := by have := H.out; omega
        have d4 : decide (50 < (M : Int)) = true := by simp; omega
        go_wp2_with fail
        refine (HA.out _).mono ?_
        rintro e w' ⟨rfl, hG⟩
        go_wp2_with fail
        go_ret
        exact ⟨rfl, hG⟩

theorem apart_any (n : Int) (L M cL cM : Nat) (A B : Option Addr) (zs : Nat → Int) (bk : Nat → Bool) (w : World)
    (hz : ∀ i, i < L → ∃ b0 o0, A = some ⟨b0, o0, none⟩ ∧ w.cell? ⟨b0, o0 + i, none⟩ = some (.int .i64 (zs i))) (hbk : ∀ i, i < M → ∃ b0 o0, B = some ⟨b0, o0, none⟩ ∧ w.cell? ⟨b0, o0 + i, none⟩ = some (.bool (bk i))) :
    Calls Try.prog 4 #[.int .i64 n, .slice A L cL, .slice B M cM] w fun e w' => e = .returned (.bool true) ∧ Gr w w' := by
  by_cases h : n < 1 ∨ 200 < n ∨ 50 < L ∨ 50 < M
  · exact apart_early n L M cL cM A B w h
  · obtain ⟨N, rfl⟩ : ∃ N : Nat, n = (N : Int) := ⟨n.toNat, by omega⟩
    exact apart_core N L M cL cM A B zs bk w hz hbk (by omega) (by omega) (by omega) (by omega)
end Go.Proofs.Ythhpdlkkmgmdeaa
