/-
  The walk of law9's ExtentFree: it answers true.
-/
import Derived.Test.YthhpdlkkmgmdeaaExtW
import Derived.Test.YthhpdlkkmgmdeaaExtL
set_option linter.unusedVariables false
set_option linter.unusedSimpArgs false
namespace Go.Proofs.Ythhpdlkkmgmdeaa
open Go Go.RowKit

theorem round_eq (k n : Int) (hn : 0 < n) (hn2 : n ≤ 1099511627776) : (wrap64 (k.tmod n + n)).tmod n = k % n := by
  have h1 := Int.tmod_lt_of_pos k hn
  have h2 := Int.lt_tmod_of_pos k hn
  rw [IntWalk.wrap64_in _ (by omega)]
  rw [Int.tmod_eq_emod_of_nonneg (by omega)]
  have h3 : k = n * (k.tdiv n) + k.tmod n := (Int.mul_tdiv_add_tmod k n).symm
  have : (k.tmod n + n) % n = k % n := by
    rw [Int.add_emod_right]
    conv => rhs; rw [h3]
    rw [Int.mul_add_emod_self_left]
  exact this

theorem roundA (k n : Int) (w : World) (hn : 0 < n) (hn2 : n ≤ 1099511627776) :
    Calls Try.prog 21 #[.int .i64 k, .int .i64 n] w fun e w' => e = .returned (.int .i64 (k % n)) ∧ w = w' := by
  go_enter Try.func21, Try.ntmps21
  go_wp2
  go_ret
  exact ⟨ret_int (round_eq k n hn hn2), rfl⟩

abbrev icell (r : Int × Int) : List Value := [.int .i64 r.1, .int .i64 r.2]
def ipairs (l : List (Int × Int)) : List Value := l.flatMap icell
theorem ipairs_at {l : List (Int × Int)} {k : Nat} {c : Int × Int} (h : l[k]? = some c) : ∀ j u, (icell c)[j]? = some u → (ipairs l)[k * 2 + j]? = some u := by
  induction l generalizing k with
  | nil => simp at h
  | cons d l ih =>
    intro j u hj
    have hj2 : j < 2 := by
      rcases Nat.lt_or_ge j 2 with h4 | h4
      · exact h4
      · rw [List.getElem?_eq_none (by simpa using h4)] at hj; cases hj
    cases k with
    | zero =>
      have hd : d = c := by simpa using h
      subst hd
      simp only [ipairs, List.flatMap_cons]
      rw [List.getElem?_append_left (by simp; omega), Nat.zero_mul, Nat.zero_add]
      exact hj
    | succ k =>
      have h' : l[k]? = some c := by simpa using h
      have := ih h' j u hj
      simp only [ipairs, List.flatMap_cons] at *
      rw [List.getElem?_append_right (by simp; omega)]
      simp only [List.length_cons, List.length_nil]
      rw [show (k + 1) * 2 + j - (0 + 1 + 1) = k * 2 + j by omega]
      exact this
def IPrs (w : World) (A : Option Addr) (l : List (Int × Int)) : Prop := Sl w A l.length 2 (ipairs l)

set_option maxRecDepth 100000 in
theorem extFree_early (n : Int) (A : Option Addr) (L c : Nat) (w : World) (h : n < 1 ∨ 200 < n ∨ 40 < L) :
    Calls Try.prog 5 #[.int .i64 n, .slice A L c] w fun e w' => e = .returned (.bool true) ∧ Gr w w' := by
  have HA : Hid _ := fun w' => awake9 w'
  have H : Hid _ := h
  clear h
  go_enter Try.func5, Try.ntmps5
  by_cases h1 : n < 1
  · have d1 : decide (n < 1) = true := by simp; omega
    go_wp2_with fail
    refine (HA.out _).mono ?_
    rintro e w' ⟨rfl, hG⟩
    go_wp2_with fail
    go_ret
    exact ⟨rfl, hG⟩
  · have d1 : decide (n < 1) = false := by simp; omega
    by_cases h2 : 200 < n
    · have d2 : decide (200 < n) = true := by simp; omega
      go_wp2_with fail
      refine (HA.out _).mono ?_
      rintro e w' ⟨rfl, hG⟩
      go_wp2_with fail
      go_ret
      exact ⟨rfl, hG⟩
    · have d2 : decide (200 < n) = false := by simp; omega
      have h3 : 40 < (L : Int) := by have := H.out; omega
      have d3 : decide (40 < (L : Int)) = true := by simp; omega
      go_wp2_with fail
      refine (HA.out _).mono ?_
      rintro e w' ⟨rfl, hG⟩
      go_wp2_with fail
      go_ret
      exact ⟨rfl, hG⟩

set_option maxRecDepth 100000 in
set_option maxHeartbeats 8000000 in
theorem extFree_core (N L c : Nat) (A : Option Addr) (l : List (Int × Int)) (w : World) (hl : IPrs w A l) (hL : l.length = L) (hN1 : 1 ≤ N) (hN2 : N ≤ 200) (hL40 : L ≤ 40) :
    Calls Try.prog 5 #[.int .i64 N, .slice A L c] w fun e w' => e = .returned (.bool true) ∧ Gr w w' := by
  have HA : Hid _ := fun w' => awake9 w'
  have HL : Hid _ := hl
  have HLL : Hid _ := hL
  clear hl hL
  have d1 : decide ((N : Int) < 1) = false := by simp; omega
  have d2 : decide (200 < (N : Int)) = false := by simp; omega
  have d3 : decide (40 < (L : Int)) = false := by simp; omega
  go_enter Try.func5, Try.ntmps5
  go_wp2_with fail
  refine (new_any N w hN1 (by omega)).mono ?_
  rintro e w1 ⟨g, b, cb, rfl, hI1, hG1, hgl, hbl⟩
  go_wp2_with fail
  have HGL : Hid _ := hgl
  have HBL : Hid _ := hbl
  clear hgl hbl
  go_loopw [7] (fun vi wr => ∃ (k : Nat) (u : List Bool), vi = .int .i64 (k : Int) ∧ k ≤ L ∧ Hid (IsExt wr g b cb 51 u) ∧ u.length = N ∧ Gr w wr) (fun vi _ => L - (intOf vi).toNat)
  case atStart => exact ⟨0, _, rfl, Nat.zero_le _, hI1, by simp, hG1⟩
  case round =>
    clear hI1 hG1
    obtain ⟨k, u, rfl, hk, hI, huN, hG⟩ := ‹∃ (k : Nat) (u : List Bool), _›
    by_cases hlt : k < L
    · have hltI : (k : Int) < (L : Int) := by omega
      obtain ⟨b0, o0, rfl, _, hc0⟩ := Sl.at_ HL.out (by rw [HLL.out]; omega)
      obtain ⟨r, hr⟩ : ∃ r, l[k]? = some r := ⟨_, List.getElem?_eq_getElem (by rw [HLL.out]; exact hlt)⟩
      have ca : wr.cell? ⟨b0, o0 + k * 2, none⟩ = some (.int .i64 r.1) := hG.cell (by have := hc0 (k * 2 + 0) _ (ipairs_at hr 0 _ rfl); simpa using this)
      have cb2 : wr.cell? ⟨b0, o0 + k * 2 + 1, none⟩ = some (.int .i64 r.2) := hG.cell (by have := hc0 (k * 2 + 1) _ (ipairs_at hr 1 _ rfl); rwa [← Nat.add_assoc] at this)
      clear hc0 hr
      obtain ⟨s, hs⟩ := Int.eq_ofNat_of_zero_le (Int.emod_nonneg r.1 (show (N : Int) ≠ 0 by omega))
      obtain ⟨m, hm⟩ := Int.eq_ofNat_of_zero_le (Int.emod_nonneg r.2 (show (5 : Int) ≠ 0 by omega))
      have hm5 : m < 5 := by have := Int.emod_lt_of_pos r.2 (show (0 : Int) < 5 by omega); omega
      have hsN : s < N := by have := Int.emod_lt_of_pos r.1 (show (0 : Int) < (N : Int) by omega); omega
      have HR1 : Hid (∀ w' : World, Calls Try.prog 21 #[.int .i64 r.1, .int .i64 (N : Int)] w' fun e w'' => e = .returned (.int .i64 (s : Int)) ∧ w' = w'') := fun w' => by have := roundA r.1 (N : Int) w' (by omega) (by omega); rwa [hs] at this
      have HR2 : Hid (∀ w' : World, Calls Try.prog 21 #[.int .i64 r.2, .int .i64 5] w' fun e w'' => e = .returned (.int .i64 (m : Int)) ∧ w' = w'') := fun w' => by have := roundA r.2 5 w' (by omega) (by omega); rwa [hm] at this
      clear hs hm
      go_wp2_with fail
      refine wp_region_lex [(0, .p), (1, .p), (2, .p), (3, .p), (4, .p), (5, .t), (6, .p), (7, .t), (8, .p), (9, .p), (10, .p), (11, .p), (12, .t), (13, .t), (14, .p), (15, .s)] [15] (by kernel_rfl) (by kernel_rfl) ?_
      iterate 5 (refine lexG_p rfl (fun K hK => ?_); go_simp; (try go_bits); refine hK _ ?_; clear hK K)
      refine lexG_load1 rfl rfl rfl rfl rfl agg_int ca ?_
      simp only [Act.put, List.setIfInBounds_toArray, List.set_cons_zero, List.set_cons_succ]
      (refine lexG_p rfl (fun K hK => ?_); go_simp; (try go_bits); refine hK _ ?_; clear hK K)
      refine lexG_tx rfl rfl rfl ?_; apply Exists.intro; refine ⟨fun w' hG => ?_, ?_⟩
      · go_simp
        exact gr_of_same (HR1.out w')
      simp only [Act.put, List.setIfInBounds_toArray, List.set_cons_zero, List.set_cons_succ]
      iterate 4 (refine lexG_p rfl (fun K hK => ?_); go_simp; (try go_bits); refine hK _ ?_; clear hK K)
      refine lexG_load1 rfl rfl rfl rfl rfl agg_int cb2 ?_
      simp only [Act.put, List.setIfInBounds_toArray, List.set_cons_zero, List.set_cons_succ]
      refine lexG_tx rfl rfl rfl ?_; apply Exists.intro; refine ⟨fun w' hG => ?_, ?_⟩
      · go_simp
        exact gr_of_same (HR2.out w')
      simp only [Act.put, List.setIfInBounds_toArray, List.set_cons_zero, List.set_cons_succ]
      (refine lexG_p rfl (fun K hK => ?_); go_simp; (try go_bits); refine hK _ ?_; clear hK K)
      refine lexG_s rfl (fun w7 hG7 K hK => ?_); go_simp
      refine (claim_any g b cb u (s : Int) (1 + (m : Int)) w7 (hI.out.gr hG7) (by omega) (by omega) (by omega)).mono ?_
      rintro e w8 ⟨rfl, hI8, hg8⟩
      refine hK _ _ (fun hB => by cases hB) ?_
      clear hK K
      refine lexG_nil fun w9 hG9 => ?_
      have hlen := claimR_length u (s : Int) (1 + (m : Int))
      have HI9 : Hid _ := hI8.gr hG9
      have hG9' : Gr w w9 := (gr_gb (hG.trans hG7) hg8 HBL.out).trans hG9
      rw [huN] at hlen
      generalize (claimR u (s : Int) (1 + (m : Int))).2 = u2 at *
      clear hI8 hg8 hG9 hG7 hI ca cb2
      go_wp2_with fail
      go_roundw
      case rel => exact ⟨k + 1, u2, by go_num, hlt, HI9, hlen, hG9'⟩
      case measure => simp [intOf]; omega
    · have hltI : ¬ (k : Int) < (L : Int) := by omega
      go_wp2_with fail
      refine (lawFree_any g b cb u (-1) _ hI.out (by omega) (by omega) (by omega)).mono ?_
      rintro e w2 ⟨A2, c2, rfl, hown, hG2⟩
      have hlim : lim (runsTo (uat u) u.length) (-1) = runsTo (uat u) u.length := rfl
      rw [hlim] at hown ⊢
      have hP : Prs w2 A2 (runsTo (uat u) u.length) := own_prs hown rfl
      have hI2 := hI.out.gr hG2
      have hGw2 := hG.trans hG2
      have hsum := sum_used u u.length (Nat.le_refl _)
      rw [cntR_all] at hsum
      have HCE : Hid _ := claim_end u
      have HCN : Hid _ := claim_next u
      have HGAP : Hid _ := runs_gap u
      have HSLE : Hid _ := sum_le u
      have HBD : Hid _ := runs_bd u
      have hML := runsTo_length (uat u) u.length
      have HLU : Hid _ := huN
      obtain ⟨R, hR⟩ : ∃ R, runsTo (uat u) u.length = R := ⟨_, rfl⟩
      rw [hR] at hP HCE HCN HGAP HSLE HBD hsum hML ⊢
      rw [huN] at hsum hML
      have HRR : Hid _ := hR
      have HP : Hid _ := hP
      have HI2 : Hid _ := hI2
      have HGW2 : Hid _ := hGw2
      have HSUM : Hid _ := hsum
      obtain ⟨M, hM⟩ : ∃ M, R.length = M := ⟨_, rfl⟩
      rw [hM] at hML ⊢
      have HM : Hid _ := hM
      clear hown hlim hR hP hI2 hGw2 hsum hM huN hI hG hG2
      go_wp2_with fail
      go_loopw [9, 10] (fun vs vi wr => ∃ k : Nat, vi = .int .i64 (k : Int) ∧ vs = .int .i64 (sumR (R.take k) : Int) ∧ k ≤ M ∧ Gr w2 wr) (fun _ vi _ => M - (intOf vi).toNat)
      case atStart => exact ⟨0, rfl, rfl, Nat.zero_le _, Gr.refl _⟩
      case round =>
        obtain ⟨k, rfl, rfl, hkM, hGr⟩ := ‹∃ k : Nat, _›
        have hsl := HSLE.out k
        rw [HLU.out] at hsl
        by_cases hkM2 : k < M
        · have hkMI : (k : Int) < (M : Int) := by omega
          obtain ⟨b2, o2, rfl, hb2, hc2⟩ := Prs.at_ HP.out (k := k) (by rw [HM.out]; exact hkM2)
          obtain ⟨r, hr⟩ : ∃ r, R[k]? = some r := ⟨_, List.getElem?_eq_getElem (by rw [HM.out]; exact hkM2)⟩
          have hts := sumR_take_succ R k r hr
          have hrb := HBD.out r (List.mem_of_getElem? hr)
          rw [HLU.out] at hrb
          have hrb1 : 1 ≤ (r.2 : Int) := by omega
          have cr1 : Hid (w2.cell? ⟨b2, o2 + k * 2, none⟩ = some (.int .i64 (r.1 : Int))) := by have := hc2 k r hr 0 _ rfl; show _ = _; simpa using this
          have cr2 : Hid (w2.cell? ⟨b2, o2 + k * 2 + 1, none⟩ = some (.int .i64 (r.2 : Int))) := by have := hc2 k r hr 1 _ rfl; rwa [← Nat.add_assoc] at this
          have HTS : Hid _ := hts
          have hr22 := hrb.2
          by_cases hk0 : 0 < k
          · obtain ⟨p, hp⟩ : ∃ p, R[k - 1]? = some p := ⟨_, List.getElem?_eq_getElem (by rw [HM.out]; omega)⟩
            have hgap := HGAP.out (k - 1) p r hp (by rw [show k - 1 + 1 = k by omega]; exact hr)
            have cp1 : Hid (w2.cell? ⟨b2, o2 + (k - 1) * 2, none⟩ = some (.int .i64 (p.1 : Int))) := by have := hc2 (k - 1) p hp 0 _ rfl; show _ = _; simpa using this
            have cp2 : Hid (w2.cell? ⟨b2, o2 + (k - 1) * 2 + 1, none⟩ = some (.int .i64 (p.2 : Int))) := by have := hc2 (k - 1) p hp 1 _ rfl; rwa [← Nat.add_assoc] at this
            have hk1 : ((k : Int) - 1) = ((k - 1 : Nat) : Int) := by omega
            have hkd : decide (0 < (k : Int)) = true := by simp; omega
            have hkm1 : k - 1 < M := by omega
            have hkm2 : ((k - 1 : Nat) : Int) < (M : Int) := by omega
            have hrd : decide ((r.2 : Int) < 1) = false := by simp; omega
            have hgd : decide ((r.1 : Int) ≤ (p.1 : Int) + (p.2 : Int)) = false := by simp; omega
            clear hc2 hr hp hts hrb
            as_aux_lemma =>
              go_wp2_with fail
              refine wp_region_lex [(0, .p), (1, .p), (2, .p), (3, .p), (4, .t), (5, .p), (6, .p), (7, .p), (8, .p), (9, .p), (10, .p), (11, .p), (12, .p), (13, .p), (14, .p), (15, .t), (16, .p), (17, .p), (18, .p), (19, .p), (20, .p), (21, .t), (22, .p), (23, .p), (24, .p), (25, .p), (26, .p), (27, .t), (28, .p), (29, .p), (30, .p)] [] (by kernel_rfl) (by kernel_rfl) ?_
              iterate 4 (refine lexG_p rfl (fun K hK => ?_); go_simp; (try go_bits); refine hK _ ?_; clear hK K)
              refine lexG_load1 rfl rfl rfl rfl rfl agg_int (hGr.cell cr2.out) ?_
              simp only [Act.put, List.setIfInBounds_toArray, List.set_cons_zero, List.set_cons_succ]
              iterate 10 (refine lexG_p rfl (fun K hK => ?_); go_simp; (try go_bits); refine hK _ ?_; clear hK K)
              refine lexG_load1 rfl rfl rfl rfl rfl agg_int (hGr.cell cp1.out) ?_
              simp only [Act.put, List.setIfInBounds_toArray, List.set_cons_zero, List.set_cons_succ]
              iterate 5 (refine lexG_p rfl (fun K hK => ?_); go_simp; (try go_bits); refine hK _ ?_; clear hK K)
              refine lexG_load1 rfl rfl rfl rfl rfl agg_int (hGr.cell cp2.out) ?_
              simp only [Act.put, List.setIfInBounds_toArray, List.set_cons_zero, List.set_cons_succ]
              iterate 5 (refine lexG_p rfl (fun K hK => ?_); go_simp; (try go_bits); refine hK _ ?_; clear hK K)
              refine lexG_load1 rfl rfl rfl rfl rfl agg_int (hGr.cell cr1.out) ?_
              simp only [Act.put, List.setIfInBounds_toArray, List.set_cons_zero, List.set_cons_succ]
              iterate 3 (refine lexG_p rfl (fun K hK => ?_); go_simp; (try go_bits); refine hK _ ?_; clear hK K)
              refine lexG_nil fun w7 hG7 => ?_
              have c7 := (hGr.trans hG7).cell cr2.out
              go_wp2_with fail
              go_roundw
              case rel => exact ⟨k + 1, by go_num, by rw [HTS.out]; simp, hkM2, hGr.trans hG7⟩
              case measure => simp [intOf]; omega
          · have hkd : decide (0 < (k : Int)) = false := by simp; omega
            have hrd : decide ((r.2 : Int) < 1) = false := by simp; omega
            clear hc2 hr hts hrb
            as_aux_lemma =>
              go_wp2_with fail
              refine wp_region_lex [(0, .p), (1, .p), (2, .p), (3, .p), (4, .t), (5, .p), (6, .p), (7, .p), (8, .p), (9, .p), (10, .p), (11, .p), (12, .p), (13, .p), (14, .p), (15, .t), (16, .p), (17, .p), (18, .p), (19, .p), (20, .p), (21, .t), (22, .p), (23, .p), (24, .p), (25, .p), (26, .p), (27, .t), (28, .p), (29, .p), (30, .p)] [] (by kernel_rfl) (by kernel_rfl) ?_
              iterate 4 (refine lexG_p rfl (fun K hK => ?_); go_simp; (try go_bits); refine hK _ ?_; clear hK K)
              refine lexG_load1 rfl rfl rfl rfl rfl agg_int (hGr.cell cr2.out) ?_
              simp only [Act.put, List.setIfInBounds_toArray, List.set_cons_zero, List.set_cons_succ]
              iterate 10 (refine lexG_p rfl (fun K hK => ?_); go_simp; (try go_bits); refine hK _ ?_; clear hK K)
              refine lexG_skip rfl rfl ?_
              simp only [Act.put, List.setIfInBounds_toArray, List.set_cons_zero, List.set_cons_succ]
              iterate 5 (refine lexG_p rfl (fun K hK => ?_); go_simp; (try go_bits); refine hK _ ?_; clear hK K)
              refine lexG_skip rfl rfl ?_
              simp only [Act.put, List.setIfInBounds_toArray, List.set_cons_zero, List.set_cons_succ]
              iterate 5 (refine lexG_p rfl (fun K hK => ?_); go_simp; (try go_bits); refine hK _ ?_; clear hK K)
              refine lexG_skip rfl rfl ?_
              simp only [Act.put, List.setIfInBounds_toArray, List.set_cons_zero, List.set_cons_succ]
              iterate 3 (refine lexG_p rfl (fun K hK => ?_); go_simp; (try go_bits); refine hK _ ?_; clear hK K)
              refine lexG_nil fun w7 hG7 => ?_
              have c7 := (hGr.trans hG7).cell cr2.out
              go_wp2_with fail
              go_roundw
              case rel => exact ⟨k + 1, by go_num, by rw [HTS.out]; simp, hkM2, hGr.trans hG7⟩
              case measure => simp [intOf]; omega
        · have hkMI : ¬ (k : Int) < (M : Int) := by omega
          have hkM3 : k = M := by omega
          subst hkM3
          go_wp2_with fail
          refine (used_any g b cb u _ (HI2.out.gr hGr) (by have := HLU.out; omega)).mono ?_
          rintro e w3 ⟨rfl, rfl⟩
          have htk : R.take k = R := by rw [← HM.out]; exact List.take_length
          rw [htk]
          have hs2 := HSUM.out
          clear hsl HSLE HGAP
          generalize sumR R = sm at *
          generalize usedR u = um at *
          have hsmI : (sm : Int) + (um : Int) = (N : Int) := by omega
          have HTK : Hid _ := htk
          clear htk HSUM hs2
          go_wp2_with fail
          refine (copy_any g b cb u _ (HI2.out.gr hGr) (by have := HLU.out; omega) (by have := HLU.out; omega)).mono ?_
          rintro e w4 ⟨g2, b3, c3, rfl, hI4, hG4, hg2, hb3⟩
          go_wp2_with fail
          have hb3' : w2.heap.size ≤ b3 := Nat.le_trans hGr.size hb3
          have HB3 : Hid _ := hb3'
          clear hg2 hb3 hb3'
          go_loopw [12] (fun vi wr => ∃ q : Nat, vi = .int .i64 (q : Int) ∧ q ≤ k ∧ Hid (IsExt wr g2 b3 c3 51 (claimAll u (R.take q))) ∧ Gr w2 wr) (fun vi _ => k - (intOf vi).toNat)
          case atStart => exact ⟨0, rfl, Nat.zero_le _, hI4, hGr.trans hG4⟩
          case round =>
            clear hI4 hGr hG4
            obtain ⟨q, rfl, hq, hIq, hGr⟩ := ‹∃ q : Nat, _›
            have hvl := claimAll_length u (R.take q)
            rw [HLU.out] at hvl
            by_cases hqk : q < k
            · have hqkI : (q : Int) < (k : Int) := by omega
              obtain ⟨b2, o2, rfl, hb2, hc2⟩ := Prs.at_ HP.out (k := q) (by rw [HM.out]; exact hqk)
              obtain ⟨r, hr⟩ : ∃ r, R[q]? = some r := ⟨_, List.getElem?_eq_getElem (by rw [HM.out]; exact hqk)⟩
              have hrb := HBD.out r (List.mem_of_getElem? hr)
              rw [HLU.out] at hrb
              have hnx := HCN.out q r hr
              have cr1 : Hid (w2.cell? ⟨b2, o2 + q * 2, none⟩ = some (.int .i64 (r.1 : Int))) := by have := hc2 q r hr 0 _ rfl; show _ = _; simpa using this
              have cr2 : Hid (w2.cell? ⟨b2, o2 + q * 2 + 1, none⟩ = some (.int .i64 (r.2 : Int))) := by have := hc2 q r hr 1 _ rfl; rwa [← Nat.add_assoc] at this
              have HNX : Hid _ := hnx
              clear hc2 hr hnx
              obtain ⟨v2, hv2⟩ : ∃ v2, claimAll u (R.take (q + 1)) = v2 := ⟨_, rfl⟩
              rw [hv2] at HNX
              have HV2 : Hid _ := hv2
              clear hv2
              generalize claimAll u (R.take q) = v at *
              as_aux_lemma =>
                go_wp2_with fail
                refine wp_region_lex [(0, .p), (1, .p), (2, .p), (3, .p), (4, .p), (5, .t), (6, .p), (7, .p), (8, .p), (9, .p), (10, .t), (11, .s), (12, .p)] [11] (by kernel_rfl) (by kernel_rfl) ?_
                iterate 5 (refine lexG_p rfl (fun K hK => ?_); go_simp; (try go_bits); refine hK _ ?_; clear hK K)
                refine lexG_load1 rfl rfl rfl rfl rfl agg_int (hGr.cell cr1.out) ?_
                simp only [Act.put, List.setIfInBounds_toArray, List.set_cons_zero, List.set_cons_succ]
                iterate 4 (refine lexG_p rfl (fun K hK => ?_); go_simp; (try go_bits); refine hK _ ?_; clear hK K)
                refine lexG_load1 rfl rfl rfl rfl rfl agg_int (hGr.cell cr2.out) ?_
                simp only [Act.put, List.setIfInBounds_toArray, List.set_cons_zero, List.set_cons_succ]
                refine lexG_s rfl (fun w7 hG7 K hK => ?_); go_simp
                refine (claim_any g2 b3 c3 v (r.1 : Int) (r.2 : Int) w7 (hIq.out.gr hG7) (by omega) (by omega) (by omega)).mono ?_
                rintro e w8 ⟨rfl, hI8, hg8⟩
                rw [HNX.out] at hI8 ⊢
                refine hK _ _ (fun hB => by cases hB) ?_
                clear hK K
                (refine lexG_p rfl (fun K hK => ?_); go_simp; (try go_bits); refine hK _ ?_; clear hK K)
                refine lexG_nil fun w9 hG9 => ?_
                have HI9 : Hid _ := hI8.gr hG9
                have hG9' : Gr w2 w9 := (gr_gb (hGr.trans hG7) hg8 HB3.out).trans hG9
                clear hI8 hg8 hG9 hG7 hIq cr1 cr2
                go_wp2_with fail
                go_roundw
                case rel => exact ⟨q + 1, by go_num, hqk, by rw [HV2.out]; exact HI9, hG9'⟩
                case measure => simp [intOf]; omega
            · have hqkI : ¬ (q : Int) < (k : Int) := by omega
              have hqe : q = k := by omega
              subst hqe
              rw [HTK.out] at hIq hvl
              have hce := HCE.out
              have hU := hce.1
              rw [HLU.out] at hU
              have hE : lim (runsTo (uat (claimAll u R)) (claimAll u R).length) (-1) = [] := by
                have h2 := hce.2
                rw [← claimAll_length u R] at h2
                exact h2
              have hE2 : lim (runsTo (uat u) u.length) (-1) = R := HRR.out
              have HE : Hid _ := hE
              have HE2 : Hid _ := hE2
              clear hce hE hE2 HCE HCN HBD
              generalize claimAll u R = v at *
              as_aux_lemma =>
                go_wp2_with fail
                refine (used_any g2 b3 c3 v _ hIq.out (by omega)).mono ?_
                rintro e w5 ⟨rfl, rfl⟩
                rw [hU]
                go_wp2_with fail
                refine (lawFree_any g2 b3 c3 v (-1) _ hIq.out (by omega) (by omega) (by omega)).mono ?_
                rintro e w6 ⟨A5, c5, rfl, hown5, hG6⟩
                rw [HE.out]
                have hGr6 := hGr.trans hG6
                clear hown5 hG6 hIq hGr
                go_wp2_with fail
                refine (lawFree_any g b cb u (-1) _ (HI2.out.gr hGr6) (by have := HLU.out; omega) (by omega) (by omega)).mono ?_
                rintro e w7 ⟨A6, c6, rfl, hown6, hG7⟩
                rw [HE2.out] at hown6 ⊢
                have hP6 : Prs w7 A6 R := own_prs hown6 rfl
                have hGr7 := hGr6.trans hG7
                have hSM := same_any A6 A2 c6 c2 R R w7 hP6 (HP.out.gr hGr7) (by have := HM.out; omega) (by have := HM.out; omega)
                rw [decide_eq_true rfl, HM.out] at hSM
                rw [HM.out]
                clear hown6 hP6 hG7 hGr6
                go_wp2_with fail
                refine Calls.mono hSM ?_
                clear hSM
                rintro e w8 ⟨rfl, hG8⟩
                have hGr8 := hGr7.trans hG8
                clear hG8 hGr7
                go_wp2_with fail
                refine (HA.out _).mono ?_
                rintro e w9 ⟨rfl, hG9⟩
                go_wp2_with fail
                go_ret
                exact ⟨rfl, Gr.trans (show Gr w w2 from HGW2.out) (hGr8.trans hG9)⟩

set_option maxRecDepth 100000 in
theorem extFree_any (n : Int) (A : Option Addr) (c : Nat) (l : List (Int × Int)) (w : World) (hl : IPrs w A l) :
    Calls Try.prog 5 #[.int .i64 n, .slice A l.length c] w fun e w' => e = .returned (.bool true) ∧ Gr w w' := by
  by_cases h : n < 1 ∨ 200 < n ∨ 40 < l.length
  · exact extFree_early n A l.length c w h
  · obtain ⟨N, rfl⟩ : ∃ N : Nat, n = (N : Int) := ⟨n.toNat, by omega⟩
    exact extFree_core N l.length c A l w hl rfl (by omega) (by omega) (by omega)
end Go.Proofs.Ythhpdlkkmgmdeaa
