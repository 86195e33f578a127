/-
  Lists of runs in memory; the document's Free; two lists are held against each other.
-/
import Derived.Test.YthhpdlkkmgmdeaaExtC
set_option linter.unusedVariables false
set_option linter.unusedSimpArgs false
namespace Go.Proofs.Ythhpdlkkmgmdeaa
open Go Go.RowKit

theorem take_splice {α : Type} (L cs : List α) (off N : Nat) (h : off + cs.length ≤ N) (hN : N ≤ L.length) :
    (L.take off ++ cs ++ L.drop (off + cs.length)).take N = (L.take N).take off ++ cs ++ (L.take N).drop (off + cs.length) := by
  rw [List.take_append, List.take_of_length_le (l := L.take off ++ cs) (by simp; omega)]
  rw [List.take_take, Nat.min_eq_left (by omega : off ≤ N), List.drop_take]
  congr 2
  simp
  omega

theorem own_splice {w : World} {base e sz n ga cap off : Nat} {cur : Array Value} {xs cs : List Value} (h : w.ownsRow base e sz (.slice (some ⟨ga, 0, none⟩) n cap) n xs)
    (hcur : w.heap[ga]? = some (.cells cur e (0, 0))) (hfit : off + cs.length ≤ n * sz) :
    (w.setRow ga (splice cur off cs)).ownsRow base e sz (.slice (some ⟨ga, 0, none⟩) n cap) n (xs.take off ++ cs ++ xs.drop (off + cs.length)) := by
  have hl := h.1
  refine ⟨by simp; omega, ?_⟩
  rcases h.2 with ⟨h1, _⟩ | ⟨g', cap', cur', hv, hb, hgg, h1, h2, h3, h4⟩
  · cases h1
  · injection hv with hv _ hc
    injection hv with hv
    injection hv with hv
    subst hv
    subst hc
    rw [hcur] at hgg
    injection hgg with hgg
    injection hgg with hgg
    subst hgg
    have hle : n * sz ≤ cur.toList.length := by rw [Array.length_toList, h3]; exact Nat.mul_le_mul_right _ h1
    refine .inr ⟨ga, cap, splice cur off cs, rfl, hb, setRow_at hcur _, h1, h2, ?_, ?_⟩
    · rw [← h3]
      have : cur.toList.length = cur.size := Array.length_toList
      simp [splice]; omega
    · rw [← h4]
      exact take_splice cur.toList cs off (n * sz) hfit hle

/-- What With writes: row after row. -/
def eqArr (d : Nat) (e s : Nat) (xs ys : Array Value) : List Nat → Sem Bool
  | [] => pure true
  | i :: is => do
    let a ← part e xs (i * s)
    let b ← part e ys (i * s)
    let r ← Op.equalIn d e a b
    if (!r) = true then pure false else eqArr d e s xs ys is

theorem run_equalIn_arr {P : Program} (w : World) (d n s : Nat) (t e : TypeId) (ht : P.underlying t = some (.array n e)) (hs : ∀ w, (sizeOf e).run P w = .ok s w) (xs ys : Array Value) :
    (Op.equalIn (d + 1) t (.agg xs) (.agg ys)).run P w = (eqArr d e s xs ys (List.range' 0 n)).run P w := by
  simp only [Op.equalIn, Sem.run_bind, run_underlying ht, Result.andThen_ok, hs]
  simp only [Std.Legacy.Range.forIn_eq_forIn_range', Std.Legacy.Range.size, Nat.sub_zero, Nat.add_sub_cancel, Nat.div_one]
  generalize List.range' 0 n = is
  induction is generalizing w with
  | nil => simp [eqArr]
  | cons i is ih =>
    simp only [List.forIn_cons, eqArr, Sem.run_bind, Sem.run_ite]
    generalize (part e xs (i * s)).run P w = r1
    cases r1 with
    | ok a w1 =>
      simp only [Result.andThen_ok]
      generalize (part e ys (i * s)).run P w1 = r2
      cases r2 with
      | ok b w2 =>
        simp only [Result.andThen_ok]
        generalize (Op.equalIn d e a b).run P w2 = r3
        cases r3 with
        | ok r w3 =>
          cases r
          · simp only [Result.andThen_ok, Bool.not_false, if_true, Sem.run_pure]
          · simp only [Result.andThen_ok, Bool.not_true, Bool.false_eq_true, if_false, Sem.run_pure]
            exact ih w3
        | halt x w3 => simp [Result.andThen]
      | halt x w2 => simp [Result.andThen]
    | halt x w1 => simp [Result.andThen]

theorem run_part1 {P : Program} (w : World) (e i : Nat) (xs : Array Value) (v : Value) (hagg : ∀ w, (isAgg e).run P w = .ok false w) (hv : xs[i]? = some v) : (part e xs i).run P w = .ok v w := by
  simp [part, hagg, hv]


abbrev pcell (r : Nat × Nat) : List Value := [.int .i64 (r.1 : Int), .int .i64 (r.2 : Int)]
def pairs (l : List (Nat × Nat)) : List Value := l.flatMap pcell
theorem pairs_length (l : List (Nat × Nat)) : (pairs l).length = l.length * 2 := by
  induction l with
  | nil => rfl
  | cons c l ih => simp only [pairs, List.flatMap_cons, List.length_append, List.length_cons, List.length_nil] at *; omega
theorem pairs_append (l m : List (Nat × Nat)) : pairs (l ++ m) = pairs l ++ pairs m := by simp [pairs]
theorem pairs_at {l : List (Nat × Nat)} {k : Nat} {c : Nat × Nat} (h : l[k]? = some c) : ∀ j u, (pcell c)[j]? = some u → (pairs l)[k * 2 + j]? = some u := by
  induction l generalizing k with
  | nil => simp at h
  | cons d l ih =>
    intro j u hj
    have hj2 : j < 2 := by
      rcases Nat.lt_or_ge j 2 with h4 | h4
      · exact h4
      · rw [List.getElem?_eq_none (by simpa using h4)] at hj; cases hj
    cases k with
    | zero =>
      have hd : d = c := by simpa using h
      subst hd
      simp only [pairs, List.flatMap_cons]
      rw [List.getElem?_append_left (by simp; omega), Nat.zero_mul, Nat.zero_add]
      exact hj
    | succ k =>
      have h' : l[k]? = some c := by simpa using h
      have := ih h' j u hj
      simp only [pairs, List.flatMap_cons] at *
      rw [List.getElem?_append_right (by simp; omega)]
      simp only [List.length_cons, List.length_nil]
      rw [show (k + 1) * 2 + j - (0 + 1 + 1) = k * 2 + j by omega]
      exact this

def Prs (w : World) (A : Option Addr) (l : List (Nat × Nat)) : Prop := Sl w A l.length 2 (pairs l)
theorem Prs.gr {w w' : World} {A : Option Addr} {l : List (Nat × Nat)} (h : Prs w A l) (hg : Gr w w') : Prs w' A l := Sl.gr h hg
theorem Prs.at_ {w : World} {A : Option Addr} {l : List (Nat × Nat)} (h : Prs w A l) {k : Nat} (hk : k < l.length) :
    ∃ b off, A = some ⟨b, off, none⟩ ∧ b < w.heap.size ∧ ∀ k c, l[k]? = some c → ∀ j u, (pcell c)[j]? = some u → w.cell? ⟨b, off + (k * 2 + j), none⟩ = some u := by
  obtain ⟨b, off, rfl, hb, hc⟩ := Sl.at_ h (by omega)
  exact ⟨b, off, rfl, hb, fun k c hkc j u hu => hc _ u (pairs_at hkc j u hu)⟩

theorem info_pair : (Try.prog.info? 48).map (fun i => (i.zero, i.size, i.bytes)) = some (some (.agg #[.int .i64 0, .int .i64 0]), 2, 16) := by kernel_rfl
theorem ety_pair : ElemTy Try.prog 30 48 2 16 := by
  obtain ⟨i, h1, h2, h3, h4⟩ := info_parts info_pair
  exact ⟨Try.underlying30, by omega, i, _, h1, h2, h3, h4, rfl⟩
theorem agg_pair : ∀ w : World, (isAgg 48).run Try.prog w = .ok true w := fun _ => by kernel_rfl
theorem size_pair : ∀ w : World, (sizeOf 48).run Try.prog w = .ok 2 w := fun _ => by kernel_rfl
theorem size_int : ∀ w : World, (sizeOf 3).run Try.prog w = .ok 1 w := fun _ => by kernel_rfl
theorem agg_int : ∀ w : World, (isAgg 3).run Try.prog w = .ok false w := fun _ => by kernel_rfl

theorem pair_neq (x y : Nat × Nat) (w : World) : (binOp .neq 48 (.agg #[.int .i64 (x.1 : Int), .int .i64 (x.2 : Int)]) (.agg #[.int .i64 (y.1 : Int), .int .i64 (y.2 : Int)])).run Try.prog w = .ok (.bool (!decide (x = y))) w := by
  have he : (Op.equalIn 10000 48 (.agg #[.int .i64 (x.1 : Int), .int .i64 (x.2 : Int)]) (.agg #[.int .i64 (y.1 : Int), .int .i64 (y.2 : Int)])).run Try.prog w = .ok (decide (x = y)) w := by
    rw [run_equalIn_arr w 9999 2 1 48 3 Try.underlying48 size_int]
    have p0 : ∀ w, (part 3 #[.int .i64 (x.1 : Int), .int .i64 (x.2 : Int)] 0).run Try.prog w = .ok (.int .i64 (x.1 : Int)) w := fun w => run_part1 w _ _ _ _ agg_int rfl
    have p1 : ∀ w, (part 3 #[.int .i64 (x.1 : Int), .int .i64 (x.2 : Int)] 1).run Try.prog w = .ok (.int .i64 (x.2 : Int)) w := fun w => run_part1 w _ _ _ _ agg_int rfl
    have q0 : ∀ w, (part 3 #[.int .i64 (y.1 : Int), .int .i64 (y.2 : Int)] 0).run Try.prog w = .ok (.int .i64 (y.1 : Int)) w := fun w => run_part1 w _ _ _ _ agg_int rfl
    have q1 : ∀ w, (part 3 #[.int .i64 (y.1 : Int), .int .i64 (y.2 : Int)] 1).run Try.prog w = .ok (.int .i64 (y.2 : Int)) w := fun w => run_part1 w _ _ _ _ agg_int rfl
    have hi := fun (a b : Int) (w : World) => run_equalIn_int (P := Try.prog) w 9998 3 .i64 .i64 a b Try.underlying3
    show (eqArr 9999 3 1 _ _ [0, 1]).run Try.prog w = _
    have e0 : ((x.1 : Int) == (y.1 : Int)) = decide (x.1 = y.1) := by
      by_cases h : x.1 = y.1
      · simp [h]
      · simp [h]; omega
    have e1 : ((x.2 : Int) == (y.2 : Int)) = decide (x.2 = y.2) := by
      by_cases h : x.2 = y.2
      · simp [h]
      · simp [h]; omega
    simp only [eqArr, Sem.run_bind, Nat.zero_mul, Nat.one_mul, p0, p1, q0, q1, Result.andThen_ok, hi, e0, e1, Sem.run_ite, Sem.run_pure]
    rw [show decide (x = y) = (decide (x.1 = y.1) && decide (x.2 = y.2)) by rw [← Bool.decide_and]; simp [Prod.ext_iff]]
    by_cases h0 : x.1 = y.1 <;> by_cases h1 : x.2 = y.2 <;> simp [h0, h1]
  rw [run_neq_struct, he]
  rfl

set_option maxRecDepth 100000 in
set_option maxHeartbeats 1000000 in
theorem same_core (A B : Option Addr) (c1 c2 n : Nat) (la lb : List (Nat × Nat)) (w : World) (hA : Prs w A la) (hB : Prs w B lb) (hna : la.length = n) (hnb : lb.length = n) (hn : n ≤ 1000000) :
    Calls Try.prog 18 #[.slice A n c1, .slice B n c2] w fun e w' => e = .returned (.bool (decide (la = lb))) ∧ Gr w w' := by
  have HA : Hid _ := hA
  have HB : Hid _ := hB
  have HNA : Hid _ := hna
  have HNB : Hid _ := hnb
  clear hA hB hna hnb
  go_enter Try.func18, Try.ntmps18
  go_wp2_with fail
  go_loopw [5] (fun i wr => ∃ k : Nat, k ≤ n ∧ i = .int .i64 k ∧ Hid (∀ j, j < k → la[j]? = lb[j]?) ∧ Gr w wr) (fun i _ => n - (intOf i).toNat)
  case atStart => exact ⟨0, Nat.zero_le _, rfl, fun j hj => absurd hj (by omega), Gr.refl w⟩
  case round =>
    obtain ⟨k, hk, rfl, hpre, hG⟩ := hrel
    by_cases hlt : k < n
    · have hka : k < la.length := by rw [HNA.out]; exact hlt
      have hkb : k < lb.length := by rw [HNB.out]; exact hlt
      obtain ⟨ba, oa, rfl, _, hca⟩ := Prs.at_ HA.out hka
      obtain ⟨bb, ob, rfl, _, hcb⟩ := Prs.at_ HB.out hkb
      obtain ⟨x, hx⟩ : ∃ x, la[k]? = some x := ⟨_, List.getElem?_eq_getElem hka⟩
      obtain ⟨y, hy⟩ : ∃ y, lb[k]? = some y := ⟨_, List.getElem?_eq_getElem hkb⟩
      have HCA : Hid (∀ j u, (pcell x)[j]? = some u → w.cell? ⟨ba, oa + (k * 2 + j), none⟩ = some u) := fun j u hu => hca k x hx j u hu
      have HCB : Hid (∀ j u, (pcell y)[j]? = some u → w.cell? ⟨bb, ob + (k * 2 + j), none⟩ = some u) := fun j u hu => hcb k y hy j u hu
      have HX : Hid _ := hx
      have HY : Hid _ := hy
      clear hca hcb hx hy hka hkb
      by_cases hxy : x = y
      · have hne := fun w' => (pair_neq x y w').trans (by rw [decide_eq_true hxy]; rfl : _ = Result.ok (Value.bool false) w')
        have HXY : Hid (x = y) := hxy
        clear hxy
        go_wp2_with fail
        refine wp_region_lex [(0, .p), (1, .p), (2, .p), (3, .t), (4, .p), (5, .p), (6, .p), (7, .t), (8, .p)] [] (by kernel_rfl) (by kernel_rfl) ?_
        iterate 3 (refine lexG_p rfl (fun K hK => ?_); go_simp; (try go_bits); refine hK _ ?_; clear hK K)
        refine lexG_loadn (cs := pcell x) rfl rfl rfl rfl rfl agg_pair size_pair ?_ ?_
        · intro j u hu; rw [Addr.add_lit, Nat.add_assoc]; exact hG.cell (HCA.out j u hu)
        simp only [Act.put, List.setIfInBounds_toArray, List.set_cons_zero, List.set_cons_succ]
        iterate 3 (refine lexG_p rfl (fun K hK => ?_); go_simp; (try go_bits); refine hK _ ?_; clear hK K)
        refine lexG_loadn (cs := pcell y) rfl rfl rfl rfl rfl agg_pair size_pair ?_ ?_
        · intro j u hu; rw [Addr.add_lit, Nat.add_assoc]; exact hG.cell (HCB.out j u hu)
        simp only [Act.put, List.setIfInBounds_toArray, List.set_cons_zero, List.set_cons_succ]
        (refine lexG_p rfl (fun K hK => ?_); go_simp; (try go_bits); refine hK _ ?_; clear hK K)
        refine lexG_nil fun w2 hG2 => ?_
        go_wp2_with fail
        go_roundw
        case rel => exact ⟨k + 1, hlt, by go_num, fun j hj => by
          rcases Nat.lt_or_ge j k with h | h
          · exact hpre j h
          · have : j = k := by omega
            subst this
            rw [HX.out, HY.out, HXY.out], hG.trans hG2⟩
        case measure => simp [intOf]; omega
      · have hne := fun w' => (pair_neq x y w').trans (by rw [decide_eq_false hxy]; rfl : _ = Result.ok (Value.bool true) w')
        have HXY : Hid (¬ x = y) := hxy
        clear hxy
        go_wp2_with fail
        refine wp_region_lex [(0, .p), (1, .p), (2, .p), (3, .t), (4, .p), (5, .p), (6, .p), (7, .t), (8, .p)] [] (by kernel_rfl) (by kernel_rfl) ?_
        iterate 3 (refine lexG_p rfl (fun K hK => ?_); go_simp; (try go_bits); refine hK _ ?_; clear hK K)
        refine lexG_loadn (cs := pcell x) rfl rfl rfl rfl rfl agg_pair size_pair ?_ ?_
        · intro j u hu; rw [Addr.add_lit, Nat.add_assoc]; exact hG.cell (HCA.out j u hu)
        simp only [Act.put, List.setIfInBounds_toArray, List.set_cons_zero, List.set_cons_succ]
        iterate 3 (refine lexG_p rfl (fun K hK => ?_); go_simp; (try go_bits); refine hK _ ?_; clear hK K)
        refine lexG_loadn (cs := pcell y) rfl rfl rfl rfl rfl agg_pair size_pair ?_ ?_
        · intro j u hu; rw [Addr.add_lit, Nat.add_assoc]; exact hG.cell (HCB.out j u hu)
        simp only [Act.put, List.setIfInBounds_toArray, List.set_cons_zero, List.set_cons_succ]
        (refine lexG_p rfl (fun K hK => ?_); go_simp; (try go_bits); refine hK _ ?_; clear hK K)
        refine lexG_nil fun w2 hG2 => ?_
        go_wp2_with fail
        go_ret
        refine ⟨ret_bool ?_, hG.trans hG2⟩
        rw [decide_eq_false]
        intro he
        have h1 := HX.out
        rw [he, HY.out] at h1
        exact HXY.out (Option.some.inj h1).symm
    · go_wp2_with fail
      go_ret
      refine ⟨ret_bool ?_, hG⟩
      have : la = lb := by
        apply List.ext_getElem?
        intro j
        rcases Nat.lt_or_ge j k with h | h
        · exact hpre j h
        · rw [List.getElem?_eq_none (by have := HNA.out; omega), List.getElem?_eq_none (by have := HNB.out; omega)]
      rw [decide_eq_true this]

set_option maxRecDepth 100000 in
theorem same_any (A B : Option Addr) (c1 c2 : Nat) (la lb : List (Nat × Nat)) (w : World) (hA : Prs w A la) (hB : Prs w B lb) (hn : la.length ≤ 1000000) (hm : lb.length ≤ 1000000) :
    Calls Try.prog 18 #[.slice A la.length c1, .slice B lb.length c2] w fun e w' => e = .returned (.bool (decide (la = lb))) ∧ Gr w w' := by
  by_cases h : la.length = lb.length
  · have := same_core A B c1 c2 la.length la lb w hA hB rfl h.symm hn
    rw [← h]; exact this
  · have hne : ¬ la = lb := fun e => h (by rw [e])
    rw [decide_eq_false hne]
    clear hA hB hne
    generalize la.length = x at *
    generalize lb.length = y at *
    have d : ((x : Int) == (y : Int)) = false := by simp; omega
    go_enter Try.func18, Try.ntmps18
    go_wp2_with fail
    go_ret
    exact ⟨rfl, Gr.refl w⟩
theorem bump_length (l : List (Nat × Nat)) : (bump l).length = l.length := by
  induction l with
  | nil => rfl
  | cons a l ih =>
    cases l with
    | nil => rfl
    | cons b l => simp only [bump, List.length_cons] at *; omega
theorem runsTo_length (f : Nat → Bool) : ∀ k, (runsTo f k).length ≤ k
  | 0 => Nat.le_refl _
  | k + 1 => by
    have ih := runsTo_length f k
    unfold runsTo
    split
    · omega
    · split
      · rw [bump_length]; omega
      · simp; omega

theorem pairs_bump (ini : List (Nat × Nat)) (r : Nat × Nat) :
    (pairs (ini ++ [r])).take (ini.length * 2 + 1) ++ [.int .i64 ((r.2 : Int) + 1)] ++ (pairs (ini ++ [r])).drop (ini.length * 2 + 1 + 1) = pairs (ini ++ [(r.1, r.2 + 1)]) := by
  have hl := pairs_length ini
  rw [pairs_append, pairs_append, List.take_append, List.drop_append, hl]
  rw [List.take_of_length_le (by omega), List.drop_eq_nil_of_le (by omega)]
  rw [show ini.length * 2 + 1 - ini.length * 2 = 1 by omega, show ini.length * 2 + 1 + 1 - ini.length * 2 = 2 by omega]
  simp [pairs]

theorem own_prs {w : World} {base n c : Nat} {A : Option Addr} {l : List (Nat × Nat)} (h : w.ownsRow base 48 2 (.slice A n c) n (pairs l)) (hn : l.length = n) : Prs w A l := by
  unfold Prs; rw [hn]; exact Sl.of_own h

theorem bs_pair (x y : Int) : ∀ w' : World, (Instr.buildSlice 30 1 #[(0, .agg #[.int .i64 x, .int .i64 y])]).run Try.prog w' = .ok (.slice (some ⟨w'.heap.size, 0, none⟩) 1 1) (w'.alloc (.cells #[.int .i64 x, .int .i64 y] 48)) := fun _ => by kernel_rfl

theorem Appd.gr2 {w0 w w' : World} {base e sz n c m : Nat} {v : Value} {A : Option Addr} {xs ys : List Value} (h : Appd w w' base e sz v A n c xs) (hv : w.ownsRow base e sz v m ys) (hG : Gr w0 w) (hb : w0.heap.size ≤ base) : Gr w0 w' := h.gr hv hG hb

def FreeInv (w : World) (f : Nat → Bool) (N : Nat) (vl vi : Value) (wr : World) : Prop :=
  ∃ (k : Nat) (A : Option Addr) (c : Nat), k ≤ N ∧ vi = .int .i64 (k : Int) ∧ vl = .slice A (runsTo f k).length c ∧ wr.ownsRow w.heap.size 48 2 vl (runsTo f k).length (pairs (runsTo f k)) ∧ Gr w wr

set_option maxRecDepth 100000 in
set_option maxHeartbeats 1000000 in
theorem freeRef_any (g b c : Nat) (u : List Bool) (w : World) (h : IsExt w g b c 53 u) (hb : u.length ≤ 100000) :
    Calls Try.prog 15 #[ptrV g] w fun e w' => ∃ A c', e = .returned (.slice A (runsTo (uat u) u.length).length c') ∧ w'.ownsRow w.heap.size 48 2 (.slice A (runsTo (uat u) u.length).length c') (runsTo (uat u) u.length).length (pairs (runsTo (uat u) u.length)) ∧ Gr w w' := by
  have HH : Hid _ := h
  clear h
  go_enter Try.func15, Try.ntmps15
  go_wp2_with fail
  go_loopw [3, 4] (fun vl vi wr => FreeInv w (uat u) u.length vl vi wr) (fun _ vi _ => u.length - (intOf vi).toNat)
  case atStart => exact ⟨0, none, 0, Nat.zero_le _, rfl, rfl, World.ownsRow_nil _ _ _ _, Gr.refl w⟩
  case round =>
    obtain ⟨k, A, c1, hk, rfl, rfl, hown, hG⟩ := ‹FreeInv _ _ _ _ _ _›
    have hI := HH.out.gr hG
    have c0 := hI.cell0
    have hrl := runsTo_length (uat u) k
    by_cases hlt : k < u.length
    · have hltI : (k : Int) < (u.length : Int) := by omega
      have c1c := hI.cs k hlt
      cases hu : uat u k with
      | true =>
        rw [hu] at c1c
        have hr := runs_used hu
        have HI : Hid _ := hI
        have HOWN : Hid _ := hown
        clear hI hown hu
        go_wp2_with fail
        go_roundw
        case rel => exact ⟨k + 1, A, c1, hlt, by go_num, by rw [hr], by rw [hr]; exact HOWN.out, hG⟩
        case measure => simp [intOf]; omega
      | false =>
        rw [hu] at c1c
        by_cases hp : 0 < k ∧ uat u (k - 1) = false
        · have c2c := hI.cs (k - 1) (by omega)
          rw [hp.2] at c2c
          obtain ⟨r0, hr0, _⟩ := (runsOK (uat u) k).all (k - 1) (by omega) hp.2
          obtain ⟨ini, r, hir⟩ : ∃ ini r, runsTo (uat u) k = ini ++ [r] := by
            rcases List.eq_nil_or_concat (runsTo (uat u) k) with h | ⟨L, x, h⟩
            · rw [h] at hr0; cases hr0
            · exact ⟨L, x, by rw [h]; simp⟩
          have hnx : runsTo (uat u) (k + 1) = ini ++ [(r.1, r.2 + 1)] := by
            rw [runsTo, hu, if_neg (by simp), if_pos hp, hir, bump_snoc]
          have hn : (runsTo (uat u) k).length = ini.length + 1 := by rw [hir]; simp
          rw [hn] at hown hrl ⊢
          rw [hir] at hown
          obtain ⟨hol, hor⟩ := hown
          rcases hor with ⟨_, hz⟩ | ⟨g', cap, cur, hv, hbase, hgg, h1, h2, h3, h4⟩
          · omega
          injection hv with e1 _ e3
          subst e1 e3
          have hown : wr.ownsRow w.heap.size 48 2 (.slice (some ⟨g', 0, none⟩) (ini.length + 1) c1) (ini.length + 1) (pairs (ini ++ [r])) := ⟨hol, .inr ⟨g', c1, cur, rfl, hbase, hgg, h1, h2, h3, h4⟩⟩
          have hcell : wr.cell? ⟨g', ini.length * 2 + 1, none⟩ = some (.int .i64 (r.2 : Int)) := by
            have := hown.cells (g := g') rfl (ini.length * 2 + 1) (.int .i64 (r.2 : Int)) (by rw [pairs_append, List.getElem?_append_right (by rw [pairs_length]; omega), pairs_length, Nat.add_sub_cancel_left]; rfl)
            simpa [Addr.add_lit] using this
          have hfit : ini.length * 2 + 2 ≤ cur.size := by omega
          have HGG : Hid _ := hgg
          have HOWN : Hid _ := hown
          have HNX : Hid _ := hnx
          have hrb : r.2 ≤ 1000000 := by
            have := (runsOK (uat u) k).le r (by rw [hir]; simp)
            omega
          have hk1 : ((k : Int) - 1) = ((k - 1 : Nat) : Int) := by omega
          have hk0 : decide (0 < (k : Int)) = true := by simp; omega
          have hi1 : ini.length ≤ 1000000 := by omega
          have hii : (ini.length : Int) < (ini.length : Int) + 1 := by omega
          clear hgg hown hnx h1 h2 h3 h4 hol hir hr0 hI hu hn hp
          go_wp2_with fail
          refine wp_region_lex [(0, .p), (1, .p), (2, .p), (3, .p), (4, .p), (5, .p), (6, .t), (7, .p), (8, .p), (9, .p), (10, .s)] [10] (by kernel_rfl) (by kernel_rfl) ?_
          iterate 6 (refine lexG_p rfl (fun K hK => ?_); go_simp; (try go_bits); refine hK _ ?_; clear hK K)
          refine lexG_load1 rfl rfl rfl rfl rfl agg_int hcell ?_
          simp only [Act.put, List.setIfInBounds_toArray, List.set_cons_zero, List.set_cons_succ]
          iterate 3 (refine lexG_p rfl (fun K hK => ?_); go_simp; (try go_bits); refine hK _ ?_; clear hK K)
          refine lexG_store rfl rfl rfl rfl g' (ini.length * 2 + 1) 48 _ [.int .i64 ((r.2 : Int) + 1)] rfl rfl size_int HGG.out (by simp; omega) (by simp [Value.oneCell']) rfl (fun w2 hG2 hb2 => ?_)
          refine lexG_nil fun w3 hG3 => ?_
          have hown2 := own_splice (off := ini.length * 2 + 1) (cs := [.int .i64 ((r.2 : Int) + 1)]) (own_gr HOWN.out hG2) hb2 (by simp; omega)
          rw [show ([Value.int .i64 ((r.2 : Int) + 1)] : List Value).length = 1 from rfl, pairs_bump] at hown2
          have hown3 := own_gr hown2 hG3
          have hG3' := ((hG.trans hG2).setRow hbase _).trans hG3
          have HO : Hid _ := hown3
          have HG : Hid _ := hG3'
          clear hown2 hown3 hG3' hG2 hb2 hG3 HGG HOWN
          go_wp2_with fail
          go_roundw
          case rel => exact ⟨k + 1, some ⟨g', 0, none⟩, c1, hlt, by go_num, by rw [HNX.out]; simp, by rw [HNX.out, List.length_append]; exact HO.out, HG.out⟩
          case measure => simp [intOf]; omega
        · have hnx : runsTo (uat u) (k + 1) = runsTo (uat u) k ++ [(k, 1)] := by
            rw [runsTo, hu, if_neg (by simp), if_neg hp]
          have HNX : Hid _ := hnx
          have HOWN : Hid _ := hown
          have HI : Hid _ := hI
          have hbs := bs_pair (k : Int) 1
          generalize hls : runsTo (uat u) k = ls at *
          clear hnx hown hls
          by_cases hk0 : 0 < k
          · have hu1 : uat u (k - 1) = true := by
              cases hh : uat u (k - 1) with
              | true => rfl
              | false => exact absurd ⟨hk0, hh⟩ hp
            have c2c := hI.cs (k - 1) (by omega)
            rw [hu1] at c2c
            have hk1 : ((k : Int) - 1) = ((k - 1 : Nat) : Int) := by omega
            have hk0b : decide (0 < (k : Int)) = true := by simp; omega
            clear hI hu hu1 hp
            go_wp2_with (at_builtin; refine wpList_app rfl (.tmp 14) (.tmp 17) 30 rfl ety_pair w.heap.size (.slice A ls.length c1) ls.length (pairs ls) rfl (own_gr HOWN.out ((Gr.refl wr).alloc _)) (some ⟨wr.heap.size, 0, none⟩) 1 1 [.int .i64 (k : Int), .int .i64 1] rfl (Sl.new wr _ 2 _ 1 rfl) (by simp [Value.oneCell']) (by unfold maxLen; omega) (by omega) (by have := hG.size; simp; omega) (fun A2 c2 w5 hap => ?_))
            have hp1 : pairs ls ++ [.int .i64 (k : Int), .int .i64 1] = pairs (ls ++ [(k, 1)]) := by rw [pairs_append]; rfl
            rw [hp1] at hap
            have hG5 := hap.gr (own_gr HOWN.out ((Gr.refl wr).alloc _)) (hG.alloc _) (Nat.le_refl _)
            go_roundw
            case rel => exact ⟨k + 1, A2, c2, hlt, by go_num, by rw [HNX.out]; simp, by rw [HNX.out]; simpa using hap.own, hG5⟩
            case measure => simp [intOf]; omega
          · have hk0b : decide (0 < (k : Int)) = false := by simp; omega
            clear hI hu hp
            go_wp2_with (at_builtin; refine wpList_app rfl (.tmp 14) (.tmp 17) 30 rfl ety_pair w.heap.size (.slice A ls.length c1) ls.length (pairs ls) rfl (own_gr HOWN.out ((Gr.refl wr).alloc _)) (some ⟨wr.heap.size, 0, none⟩) 1 1 [.int .i64 (k : Int), .int .i64 1] rfl (Sl.new wr _ 2 _ 1 rfl) (by simp [Value.oneCell']) (by unfold maxLen; omega) (by omega) (by have := hG.size; simp; omega) (fun A2 c2 w5 hap => ?_))
            have hp1 : pairs ls ++ [.int .i64 (k : Int), .int .i64 1] = pairs (ls ++ [(k, 1)]) := by rw [pairs_append]; rfl
            rw [hp1] at hap
            have hG5 := hap.gr (own_gr HOWN.out ((Gr.refl wr).alloc _)) (hG.alloc _) (Nat.le_refl _)
            go_roundw
            case rel => exact ⟨k + 1, A2, c2, hlt, by go_num, by rw [HNX.out]; simp, by rw [HNX.out]; simpa using hap.own, hG5⟩
            case measure => simp [intOf]; omega
    · have hkn : k = u.length := by omega
      subst hkn
      have hltI : ¬ (u.length : Int) < (u.length : Int) := by omega
      go_wp2_with fail
      go_ret
      exact ⟨A, c1, rfl, hown, hG⟩
end Go.Proofs.Ythhpdlkkmgmdeaa
