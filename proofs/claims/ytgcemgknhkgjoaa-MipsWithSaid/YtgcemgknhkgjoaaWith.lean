/-
  (*Pyramid).With: another one, of which a part is another one.
-/
import Derived.Test.YtgcemgknhkgjoaaWithL
set_option linter.unusedVariables false
set_option linter.unusedSimpArgs false
namespace Go.Proofs.Ytgcemgknhkgjoaa
open Go Go.RowKit

theorem size_col1 : ∀ w : World, (sizeOf 35).run Try.prog w = .ok 4 w := fun _ => by kernel_rfl

set_option maxRecDepth 100000 in
theorem with_bad (g : Nat) (A : Option Addr) (c : Nat) (p : Pyr) (w : World) (h : IsPyr w g p) (hp : p.d = 1) :
    Calls Try.prog 15 #[.pointer (some ⟨g, 0, none⟩), .int .i64 8, .int .i64 0, .int .i64 1, .int .i64 1, .slice A 1 c] w fun e w' => e = .returned (.tuple #[.pointer none, .int .i64 1]) ∧ Gr w w' := by
  have HS : Hid _ := fun w' (hG : Gr w w') => size_any g p 0 w' (h.gr hG)
  have he : p.size 0 = 8 := by simp [Pyr.size, hp, sideN]
  rw [he] at HS
  clear h hp he
  go_enter Try.func15, Try.ntmps15
  go_wp2_with (go_at_call 12; refine (HS.out _ (Gr.refl _)).mono ?_; rintro e w' ⟨rfl, rfl⟩)
  go_ret2
  exact ⟨rfl, Gr.refl _⟩

theorem with_idx (N n n2 X Y W H k : Nat) (hn : n = N * N) (hn2 : n2 = W * H) (hX : X + W ≤ N) (hY : Y + H ≤ N) (hk : k < H) (hW : 1 ≤ W) (hnb : n ≤ 1024) (hn2b : n2 ≤ 1024) (hN : N ≤ 32) :
    ∃ (I J M : Nat) (yk p1 : Int), wrap64 ((Y : Int) + (k : Int)) = yk ∧ wrap64 (((Y : Int) + (k : Int)) * (N : Int)) = p1 ∧ wrap64 (p1 + (X : Int)) = (I : Int) ∧ wrap64 ((k : Int) * (W : Int)) = (J : Int) ∧ wrap64 ((J : Int) + (W : Int)) = (M : Int) ∧
      I + W ≤ n ∧ M ≤ n2 ∧ J + W = M ∧ (Y + k) * N + X = I ∧ k * W = J := by
  have hrow := row_in hX hY hk
  have hsrc := src_in (W := W) hk
  rw [← hn] at hrow
  rw [← hn2] at hsrc
  refine ⟨(Y + k) * N + X, k * W, k * W + W, ((Y + k : Nat) : Int), (((Y + k) * N : Nat) : Int), ?_, ?_, ?_, ?_, ?_, hrow, hsrc, rfl, rfl, rfl⟩
  · rw [IntWalk.wrap64_in _ (by omega)]; simp
  · rw [show ((Y : Int) + (k : Int)) * (N : Int) = (((Y + k) * N : Nat) : Int) by simp]; exact IntWalk.wrap64_in _ (by omega)
  · rw [show (((Y + k) * N : Nat) : Int) + (X : Int) = (((Y + k) * N + X : Nat) : Int) by simp]; exact IntWalk.wrap64_in _ (by omega)
  · rw [show (k : Int) * (W : Int) = ((k * W : Nat) : Int) by simp]; exact IntWalk.wrap64_in _ (by omega)
  · rw [show ((k * W : Nat) : Int) + (W : Int) = ((k * W + W : Nat) : Int) by simp]; exact IntWalk.wrap64_in _ (by omega)

def WithInv (w : World) (gt D n N X Y W H : Nat) (wrap : Bool) (ts l : List Col) (A : Option Addr) (c : Nat) (i : Value) (wr : World) : Prop :=
  ∃ k : Nat, i = .int .i64 k ∧ k ≤ H ∧ wr.heap[gt]? = some (.cells #[.int .i64 D, .bool wrap, .slice A n c] 26 (0, 0)) ∧
    wr.ownsRow w.heap.size 35 4 (.slice A n c) n (cols (withRows ts N X Y W l k)) ∧ w.heap.size ≤ gt ∧ Gr w wr

theorem with_step {w wr w1 w8 : World} {gt D n N X Y W H k I ga c : Nat} {wrap : Bool} {ts l : List Col} {cur : Array Value} {cs : List Value} (hlt : k < H)
    (hT : wr.heap[gt]? = some (.cells #[.int .i64 D, .bool wrap, .slice (some ⟨ga, 0, none⟩) n c] 26 (0, 0)))
    (hA : wr.ownsRow w.heap.size 35 4 (.slice (some ⟨ga, 0, none⟩) n c) n (cols (withRows ts N X Y W l k))) (hgg : wr.heap[ga]? = some (.cells cur 35 (0, 0))) (hb : w.heap.size ≤ ga) (hgt : w.heap.size ≤ gt)
    (hG : Gr w wr) (hG1 : Gr wr w1) (hG8 : Gr (w1.setRow ga (splice cur (I * 4) cs)) w8) (hcs : cs = cols ((l.drop (k * W)).take W)) (hl2 : ((l.drop (k * W)).take W).length = W) (hI : (Y + k) * N + X = I) (hrow : I + W ≤ n) :
    WithInv w gt D n N X Y W H wrap ts l (some ⟨ga, 0, none⟩) c (.int .i64 ((k : Int) + 1)) w8 := by
  have hne : gt ≠ ga := by
    intro he
    rw [he, hgg] at hT
    injection hT with hT
    injection hT with _ hT
    cases hT
  have hcl : cs.length = W * 4 := by rw [hcs, cols_length, hl2]
  refine ⟨k + 1, rfl, hlt, hG8.heap ((setRow_else hne _).trans (hG1.heap hT)), ?_, hgt, ((hG.trans hG1).setRow hb _).trans hG8⟩
  have h := own_splice (off := I * 4) (cs := cs) (own_gr hA hG1) (hG1.heap hgg) (by omega)
  have e := cols_withRow N X Y W l (withRows ts N X Y W l k) k I hI hl2
  rw [← hcs] at e
  rw [← e] at h
  exact own_gr h hG8

set_option maxRecDepth 100000 in
set_option maxHeartbeats 2000000 in
theorem with_core (g b off n c0 D N X Y W H n2 c2 b2 off2 : Nat) (wrap : Bool) (ts l : List Col) (w : World) (hD : D ≤ 3) (hN : N = sideN D 0) (hn : n = N * N) (hts : ts.length = n) (hs : Cols w (some ⟨b, off, none⟩) ts)
    (hc0 : w.cell? ⟨g, 0, none⟩ = some (.int .i64 D)) (hc1 : w.cell? ⟨g, 1, none⟩ = some (.bool wrap)) (hc2 : w.cell? ⟨g, 2, none⟩ = some (.slice (some ⟨b, off, none⟩) n c0))
    (hS : ∀ w', Gr w w' → Calls Try.prog 12 #[.pointer (some ⟨g, 0, none⟩), .int .i64 0] w' fun e w'' => e = .returned (.int .i64 (N : Int)) ∧ w' = w'')
    (hl : Cols w (some ⟨b2, off2, none⟩) l) (hln : l.length = n2) (hn2 : n2 = W * H) (hc22 : n2 ≤ c2) (hW : 1 ≤ W) (hH : 1 ≤ H) (hX : X + W ≤ N) (hY : Y + H ≤ N) :
    Calls Try.prog 15 #[.pointer (some ⟨g, 0, none⟩), .int .i64 X, .int .i64 Y, .int .i64 W, .int .i64 H, .slice (some ⟨b2, off2, none⟩) n2 c2] w (BuildPost w (pyrOf D wrap (withRows ts N X Y W l H))) := by
  have hNb := sideN_bd D 0 hD
  rw [← hN] at hNb
  have hNN : N * N ≤ 32 * 32 := Nat.mul_le_mul hNb.2 hNb.2
  have hnb : n ≤ 1024 := by omega
  have hn1 : 1 ≤ n := by rw [hn]; exact Nat.mul_pos (by omega) (by omega)
  have HT : Hid _ := fun (w' : World) (h : Gr w w') => texture_core g b off n c0 D wrap ts w' hts hnb (hs.gr h) (h.cell hc0) (h.cell hc1) (h.cell hc2)
  have HS : Hid _ := hS
  have HL : Hid _ := hl
  have Hln : Hid _ := hln
  have Hn : Hid (n = N * N) := hn
  have HN : Hid (N = sideN D 0) := hN
  have Hts : Hid (ts.length = n) := hts
  have Hn2 : Hid (n2 = W * H) := hn2
  have hWH : (W : Int) * (H : Int) = (n2 : Int) := by rw [hn2]; simp
  have hWHb : W * H ≤ 32 * 32 := Nat.mul_le_mul (by omega) (by omega)
  have hn2b : n2 ≤ 1024 := by omega
  clear hs hS hl hln hn hN hts hc0 hc1 hc2 hn2 hWHb hNN
  have b3 : wrap64 ((W : Int) * (H : Int)) = (n2 : Int) := by rw [hWH]; exact IntWalk.wrap64_in _ (by omega)
  obtain ⟨nx, hnx⟩ : ∃ nx : Int, Hid (wrap64 ((N : Int) - (X : Int)) = nx) := ⟨_, rfl⟩
  obtain ⟨ny, hny⟩ : ∃ ny : Int, Hid (wrap64 ((N : Int) - (Y : Int)) = ny) := ⟨_, rfl⟩
  have d1 : decide ((W : Int) < 1) = false := by simp; omega
  have d2 : decide ((H : Int) < 1) = false := by simp; omega
  have d3 : decide ((X : Int) < 0) = false := by simp
  have d4 : decide ((Y : Int) < 0) = false := by simp
  have d5 : decide ((N : Int) < (X : Int)) = false := by simp; omega
  have d6 : decide ((N : Int) < (Y : Int)) = false := by simp; omega
  have d7 : decide (nx < (W : Int)) = false := by have := hnx.out; rw [IntWalk.wrap64_in _ (by omega)] at this; simp; omega
  have d8 : decide (ny < (H : Int)) = false := by have := hny.out; rw [IntWalk.wrap64_in _ (by omega)] at this; simp; omega
  have b1 := hnx.out
  have b2' := hny.out
  have HWH : Hid ((W : Int) * (H : Int) = (n2 : Int)) := hWH
  clear hWH
  go_enter Try.func15, Try.ntmps15
  go_wp2_with (first
    | (go_at_call 12; refine (HS.out _ (Gr.refl _)).mono ?_; rintro e w' ⟨rfl, rfl⟩)
    | (go_at_call 17; refine (HT.out _ (Gr.refl _)).mono ?_; rintro e w2 ⟨A, c, rfl, hA, hG2⟩
       have hT := heap_alloc_new w2 (.cells #[.int .i64 0, .bool false, .slice none 0 0] 26))
    | (refine wpList_store_row rfl rfl w2.heap.size 0 26 _ [.int .i64 D, .bool wrap, .slice A n c] rfl rfl size_tex hT (by simp) (by simp [Value.oneCell']) ?_))
  have hstart : WithInv w w2.heap.size D n N X Y W H wrap ts l A c (.int .i64 ((0 : Nat) : Int)) ((w2.alloc (.cells #[.int .i64 0, .bool false, .slice none 0 0] 26)).setRow w2.heap.size (splice #[.int .i64 0, .bool false, .slice none 0 0] 0 [.int .i64 D, .bool wrap, .slice A n c])) :=
    ⟨0, rfl, Nat.zero_le _, setRow_at hT _, own_setRow (own_gr hA ((Gr.refl w2).alloc _)) hT (by decide), hG2.size, (hG2.alloc _).setRow (hG2.size) _⟩
  have hgl := hG2.size
  clear hA hG2 hT
  generalize w2.heap.size = gt at *
  clear b1 b2' b3 d1 d2 d3 d4 d5 d6 d7 d8
  go_loopw [68] (fun i wr => WithInv w gt D n N X Y W H wrap ts l A c i wr) (fun i _ => H - (intOf i).toNat)
  case atStart => exact hstart
  case round =>
    clear hstart
    obtain ⟨k, rfl, hkH, hT, hA, hgt, hG⟩ := ‹WithInv _ _ _ _ _ _ _ _ _ _ _ _ _ _ _ _›
    rename_i wr _
    by_cases hlt : k < H
    · have hkI : (k : Int) < (H : Int) := by omega
      have hcT := row_cell (v := .slice A n c) hT 2 rfl
      obtain ⟨I, J, M, yk, p1, e1, e2, e3, e4, e5, hrow, hM, hJM, hI, hJ⟩ := with_idx N n n2 X Y W H k Hn.out Hn2.out hX hY hlt hW hnb hn2b hNb.2
      have hI : Hid _ := hI
      have hJ : Hid _ := hJ
      have e1 : Hid _ := e1
      have e2 : Hid _ := e2
      have e3 : Hid _ := e3
      have e4 : Hid _ := e4
      have e5 : Hid _ := e5
      have hl2 : ((l.drop (k * W)).take W).length = W := by simp only [List.length_take, List.length_drop]; rw [Hln.out, hJ.out]; omega
      have hcsl : (cols ((l.drop (k * W)).take W)).length = W * 4 := by rw [cols_length, hl2]
      have hcsrc : Hid (∀ j v, (cols ((l.drop (k * W)).take W))[j]? = some v → wr.cell? ⟨b2, off2 + J * 4 + j, none⟩ = some v) := by
        intro j v hj
        rw [cols_take, cols_drop, List.getElem?_take] at hj
        split at hj
        · rw [List.getElem?_drop, hJ.out] at hj
          obtain ⟨b', o', he, _, hc⟩ := HL.out.at_ (by have := Hln.out; omega)
          cases he
          have := hG.cell (hc _ _ hj)
          rwa [← Nat.add_assoc] at this
        · cases hj
      obtain ⟨hA1, hA2⟩ := hA
      rcases hA2 with ⟨_, hn0⟩ | ⟨ga, cap, cur, hv, hb, hgg, h1, h2, h3, h4⟩
      · omega
      injection hv with hv1 _ hv3
      subst hv1
      subst hv3
      have hAA : Hid (wr.ownsRow w.heap.size 35 4 (.slice (some ⟨ga, 0, none⟩) n c) n (cols (withRows ts N X Y W l k))) := ⟨hA1, .inr ⟨ga, c, cur, rfl, hb, hgg, h1, h2, h3, h4⟩⟩
      have HGG : Hid _ := hgg
      have hsz : n * 4 ≤ cur.size := by rw [h3]; exact Nat.mul_le_mul_right _ h1
      have hcI : ¬ c = I := by clear h2; omega
      clear h1 h2 h3 h4 hA1 hgg
      have hfit : I * 4 + W * 4 ≤ cur.size := by omega
      have g1 : (I : Int) ≤ (n : Int) := by omega
      have g2 : I ≤ n := by omega
      have g4 : J ≤ M := by omega
      have g6 : (J : Int) ≤ (M : Int) := by omega
      have g5 : (M : Int) ≤ (n2 : Int) := by omega
      go_wp2_with fail
      refine wp_region_lex [(0, .p), (1, .t), (2, .p), (3, .p), (4, .p), (5, .p), (6, .p), (7, .p), (8, .p), (9, .p), (10, .p), (11, .p), (12, .p), (13, .p), (14, .p), (15, .p), (16, .p), (17, .p), (18, .p), (19, .p), (20, .s)] [20] (by kernel_rfl) (by kernel_rfl) ?_
      have gg : (0 : Int) ≤ (I : Int) ∧ (I : Int) ≤ (n : Int) := ⟨by omega, g1⟩
      have gJ : (0 : Int) ≤ (J : Int) ∧ (J : Int) ≤ (M : Int) := ⟨by omega, g6⟩
      have kW : Hid ((k : Int) * (W : Int) = (J : Int)) := by show _ = _; rw [← hJ.out]; simp
      have jm : Hid ((J : Int) + (W : Int) = (M : Int)) := by show _ = _; omega
      have mx : Hid (max (M : Int) 0 = (M : Int)) := by show _ = _; omega
      have gM : (0 : Int) ≤ (M : Int) ∧ (M : Int) ≤ (c2 : Int) := by omega
      have hcJ : ¬ c2 = J := by omega
      repeat ((refine lexG_p rfl (fun K hK => ?_)); go_simp; (try go_bits); refine hK _ ?_; clear hK K)
      refine lexG_load1 rfl rfl rfl rfl rfl agg_cols (row_cell hT 2 rfl) ?_
      simp only [Act.put, List.setIfInBounds_toArray, List.set_cons_zero, List.set_cons_succ]
      iterate 7 ((refine lexG_p rfl (fun K hK => ?_)); go_simp; (try simp only [e1.out, e2.out, e3.out]); (try go_bits); refine hK _ ?_; clear hK K)
      refine lexG_p rfl (fun K hK => ?_)
      go_simp
      (try simp only [e1.out, e2.out, e3.out, Int.toNat_natCast, if_pos gg, if_neg hcI])
      refine hK _ ?_
      clear hK K
      iterate 9 ((refine lexG_p rfl (fun K hK => ?_)); go_simp; (try simp only [e4.out, e5.out]); (try go_bits); refine hK _ ?_; clear hK K)
      refine lexG_p rfl (fun K hK => ?_)
      go_simp
      simp only [kW.out, jm.out, mx.out, Int.toNat_natCast, if_pos gM, if_pos gJ, if_neg hcJ]
      go_simp
      refine hK _ ?_
      clear hK K

      refine lexG_copy rfl rfl rfl (.tmp 80) (.tmp 90) 24 24 rfl 35 4 ga (I * 4) (n - I) (c - I) ⟨b2, off2 + J * 4, none⟩ (M - J) (c2 - J) W rfl rfl cur 35 _ Try.underlying24 size_col1 HGG.out (by show min _ _ = _; omega) hcsl (fun j v hj => by rw [Addr.add_lit]; exact hcsrc.out j v hj) (by rw [hcsl]; exact hfit) (cols_one _) rfl (fun w1 hG1 => ?_)
      refine lexG_nil fun w8 hG8 => ?_
      have hstep := with_step hlt hT hAA.out HGG.out hb hgt hG hG1 hG8 rfl hl2 hI.out hrow
      clear hG1 hG8 hT hAA HGG hb hgt hG hcsrc hfit hcsl hl2 kW jm mx gM gJ gg hcJ hcI e1 e2 e3 e4 e5
      go_wp2_with fail
      go_roundw
      case rel => exact hstep
      case measure => simp [intOf]; omega
    · have hkH' : k = H := by omega
      subst hkH'
      have hlen := withRows_length ts N X Y W k l (Hts.out.trans Hn.out) hX hY (Hln.out.trans Hn2.out) k (Nat.le_refl _)
      have HB : Hid _ := fun (w' : World) (h : Gr wr w') => build_any A c D (withRows ts N X Y W l k) wrap w' hD (hlen.trans (by rw [HN.out])) (by unfold Cols; rw [hlen, ← Hn.out]; exact Sl.of_own (own_gr hA h))
      rw [hlen, ← Hn.out] at HB
      have c30 := row_cell (v := .int .i64 D) hT 0 rfl
      have c31 := row_cell (v := .bool wrap) hT 1 rfl
      have c32 := row_cell (v := .slice A n c) hT 2 rfl
      clear hA hT hlen
      go_wp2_with (go_at_call 10; refine (HB.out _ (Gr.refl _)).mono ?_; rintro e w3 ⟨g3, rfl, hp3, hG3, hge3⟩)
      go_ret2
      exact ⟨g3, rfl, hp3, hG.trans hG3, Nat.le_trans hG.size hge3⟩

theorem with_any (g : Nat) (p : Pyr) (t : List Col) (X Y W H c2 : Nat) (B : Option Addr) (l : List Col) (w : World) (hp : IsPyr w g p) (ht : p.lev[0]? = some t) (hl : Cols w B l) (hn2 : l.length = W * H) (hc2 : l.length ≤ c2)
    (hW : 1 ≤ W) (hH : 1 ≤ H) (hX : X + W ≤ sideN p.d 0) (hY : Y + H ≤ sideN p.d 0) :
    Calls Try.prog 15 #[.pointer (some ⟨g, 0, none⟩), .int .i64 X, .int .i64 Y, .int .i64 W, .int .i64 H, .slice B l.length c2] w (BuildPost w (pyrOf p.d p.wrap (withRows t (sideN p.d 0) X Y W l H))) := by
  have hpos : 0 < l.length := by rw [hn2]; exact Nat.mul_pos (by omega) (by omega)
  have hsz := hp.hsz 0 t ht
  have hN := sideN_bd p.d 0 hp.hd
  obtain ⟨A, c, L, cl, t', hb, ht', hL, hlev, hA⟩ := hp.mem
  rw [ht] at ht'
  cases ht'
  obtain ⟨b, off, rfl, _, _⟩ := Cols.at_ hA (k := 0) (by rw [hsz]; exact Nat.mul_pos (by omega) (by omega))
  obtain ⟨b2, off2, rfl, _, _⟩ := Cols.at_ hl hpos
  have hS : ∀ w', Gr w w' → Calls Try.prog 12 #[.pointer (some ⟨g, 0, none⟩), .int .i64 0] w' fun e w'' => e = .returned (.int .i64 (sideN p.d 0 : Int)) ∧ w' = w'' := fun w' hG => by
    have := size_any g p 0 w' (hp.gr hG)
    have e : p.size 0 = (sideN p.d 0 : Int) := by simp [Pyr.size]
    rwa [e] at this
  exact with_core g b off t.length c p.d (sideN p.d 0) X Y W H l.length c2 b2 off2 p.wrap t l w hp.hd rfl hsz rfl hA (row_cell hb 0 rfl) (row_cell hb 1 rfl) (row_cell hb 2 rfl) hS hl rfl hn2 hc2 hW hH hX hY

theorem texture_any (g : Nat) (p : Pyr) (t : List Col) (w : World) (hp : IsPyr w g p) (ht : p.lev[0]? = some t) :
    Calls Try.prog 17 #[.pointer (some ⟨g, 0, none⟩)] w fun e w' => ∃ A c', e = .returned (.agg #[.int .i64 p.d, .bool p.wrap, .slice A t.length c']) ∧ w'.ownsRow w.heap.size 35 4 (.slice A t.length c') t.length (cols t) ∧ Gr w w' := by
  have hsz := hp.hsz 0 t ht
  have hN := sideN_bd p.d 0 hp.hd
  have hNN : sideN p.d 0 * sideN p.d 0 ≤ 32 * 32 := Nat.mul_le_mul hN.2 hN.2
  obtain ⟨A, c, L, cl, t', hb, ht', hL, hlev, hA⟩ := hp.mem
  rw [ht] at ht'
  cases ht'
  obtain ⟨b, off, rfl, _, _⟩ := Cols.at_ hA (k := 0) (by rw [hsz]; exact Nat.mul_pos (by omega) (by omega))
  exact texture_core g b off t.length c p.d p.wrap t w rfl (by omega) hA (row_cell hb 0 rfl) (row_cell hb 1 rfl) (row_cell hb 2 rfl)
end Go.Proofs.Ytgcemgknhkgjoaa
