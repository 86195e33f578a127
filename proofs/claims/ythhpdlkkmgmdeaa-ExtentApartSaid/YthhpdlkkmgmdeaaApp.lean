/-
  Appending to a row of the call's own.
-/
import Derived.Test.YthhpdlkkmgmdeaaBase
set_option linter.unusedVariables false
set_option linter.unusedSimpArgs false
namespace Go.Proofs.Ythhpdlkkmgmdeaa
open Go Go.RowKit

/-- A slice type: its element's number, cells and bytes. -/
def ElemTy (P : Program) (t e : TypeId) (sz bytes : Nat) : Prop :=
  P.underlying t = some (.slice e) ∧ 0 < sz ∧ ∃ i z, P.info? e = some i ∧ i.zero = some z ∧ i.size = sz ∧ i.bytes = bytes ∧ z.cells.size = sz

section
variable {P : Program} {w : World}

theorem run_app {t ty e : TypeId} {sz bytes : Nat} (hT : ElemTy P t e sz bytes) {base : Nat} {v : Value} {n : Nat} {xs : List Value} (hown : w.ownsRow base e sz v n xs)
    {A : Option Addr} {m c : Nat} {news : List Value} (hr : Sl w A m sz news) (h1 : ∀ u ∈ news, u.oneCell' = true)
    (h63 : n + m ≤ maxLen) (hbytes : (n + m) * bytes ≤ 140737488355328) (hbase : base ≤ w.heap.size) :
    ∃ v' w', (Builtin.append_ #[t, t] ty #[v, .slice A m c]).run P w = .ok v' w' ∧ w'.ownsRow base e sz v' (n + m) (xs ++ news) ∧ w.grownBy w' v.ownBlock ∧
      (v'.ownBlock = v.ownBlock ∨ v'.ownBlock = some w.heap.size) := by
  obtain ⟨ht, hsz, i, z, hi, hz, hsize, hby, hzs⟩ := hT
  rcases A with _ | ad
  · have hm : m = 0 := by
      rcases Nat.eq_zero_or_pos m with h0 | h0
      · exact h0
      · obtain ⟨_, _, h, _⟩ := hr.2 h0
        cases h
    subst hm
    have hn : news = [] := List.eq_nil_of_length_eq_zero (by simpa using hr.1)
    subst hn
    refine ⟨v, w, ?_, by simpa using hown, World.grownBy.refl w _, .inl rfl⟩
    rcases hown.2 with ⟨rfl, rfl⟩ | ⟨g, cap, cur, rfl, _, _, hnc, _⟩
    · simp [Builtin.append_, run_underlying ht, sizeOf, typeInfo, hi, Builtin.lenOf, Builtin.firstCells]
    · simp [Builtin.append_, run_underlying ht, sizeOf, typeInfo, hi, Builtin.lenOf, Builtin.firstCells, hnc, storeCells]
  · have hcells : ∀ j u, news[j]? = some u → w.cell? (ad.add j) = some u := by
      intro j u hu
      rcases Nat.eq_zero_or_pos m with h0 | h0
      · subst h0
        have hn : news = [] := List.eq_nil_of_length_eq_zero (by simpa using hr.1)
        subst hn
        simp at hu
      · obtain ⟨b, off, h, _, hc⟩ := hr.2 h0
        injection h with h
        subst h
        rw [Addr.add_lit]
        exact hc j u hu
    obtain ⟨v', w', hrun, h2, h3, _, h5⟩ := run_append_own_at (P := P) w base t ty e i z sz bytes ht hi hz hsize hby hzs hsz v n xs hown ad m c news hr.1 hcells h1 h63 hbytes hbase
    exact ⟨v', w', hrun, h2, h3, h5⟩

variable {o : Oper} {a : Act} {K : Act → World → Prop} {Q : Exit → Act → World → Prop}

/-- What an append leaves: the longer row, in its old block or a new one; all else is as it was. -/
structure Appd (w w' : World) (base e sz : Nat) (v : Value) (A' : Option Addr) (n c' : Nat) (xs : List Value) : Prop where
  own : w'.ownsRow base e sz (.slice A' n c') n xs
  grown : w.grownBy w' v.ownBlock
  at_ : (Value.slice A' n c').ownBlock = v.ownBlock ∨ (Value.slice A' n c').ownBlock = some w.heap.size

theorem wp_app (s x : Operand) (t : TypeId) (ho : o.op = .call { callee := .builtin .append, args := #[s, x], argTypes := #[t, t] })
    {e : TypeId} {sz bytes : Nat} (hT : ElemTy P t e sz bytes) (base : Nat) (v : Value) (n : Nat) (xs : List Value) (hs : a.eval s = v) (hown : w.ownsRow base e sz v n xs)
    (A : Option Addr) (m c : Nat) (news : List Value) (hx : a.eval x = .slice A m c) (hr : Sl w A m sz news) (h1 : ∀ u ∈ news, u.oneCell' = true)
    (h63 : n + m ≤ maxLen) (hbytes : (n + m) * bytes ≤ 140737488355328) (hbase : base ≤ w.heap.size)
    (h : ∀ A' c' w', Appd w w' base e sz v A' (n + m) c' (xs ++ news) → K (a.put o.dst (.slice A' (n + m) c')) w') : o.wp P a w K Q := by
  obtain ⟨v', w', hrun, h2, h3, h4⟩ := run_app (ty := o.type) hT hown (c := c) hr h1 h63 hbytes hbase
  obtain ⟨A', c', rfl⟩ := own_form h2
  unfold Oper.wp execOp
  simp only [ho, resolve, invoke, builtin, Sem.run_bind, Sem.run_pure, Result.andThen_ok, List.map_toArray, List.map_cons, List.map_nil, hs, hx, hrun]
  exact h A' c' w' ⟨h2, h3, h4⟩

theorem wpList_app {ops : Array Oper} {rest : List Oper} (hgd : o.guard = none) (s x : Operand) (t : TypeId) (ho : o.op = .call { callee := .builtin .append, args := #[s, x], argTypes := #[t, t] })
    {e : TypeId} {sz bytes : Nat} (hT : ElemTy P t e sz bytes) (base : Nat) (v : Value) (n : Nat) (xs : List Value) (hs : a.eval s = v) (hown : w.ownsRow base e sz v n xs)
    (A : Option Addr) (m c : Nat) (news : List Value) (hx : a.eval x = .slice A m c) (hr : Sl w A m sz news) (h1 : ∀ u ∈ news, u.oneCell' = true)
    (h63 : n + m ≤ maxLen) (hbytes : (n + m) * bytes ≤ 140737488355328) (hbase : base ≤ w.heap.size)
    (h : ∀ A' c' w', Appd w w' base e sz v A' (n + m) c' (xs ++ news) → wpList P ops Q rest (a.put o.dst (.slice A' (n + m) c')) w') : wpList P ops Q (o :: rest) a w :=
  wpList_plain hgd fun _ hK => wp_app s x t ho hT base v n xs hs hown A m c news hx hr h1 h63 hbytes hbase fun _ _ _ h' => hK _ _ (h _ _ _ h')

/-- In a drawn region's walk: an append that is the next step. -/
theorem lexG_app {ops : Array Oper} {B : Nat → Bool} {R : Act → World → Prop} {w0 : World} {i : Nat} {r : List (Nat × RK)} {d : Tmp} (hi : ops[i]? = some o) (hgd : o.guard = none) (hd : o.dst = some d) (s x : Operand) (t : TypeId) (ho : o.op = .call { callee := .builtin .append, args := #[s, x], argTypes := #[t, t] })
    {e : TypeId} {sz bytes : Nat} (hT : ElemTy P t e sz bytes) (base : Nat) (v : Value) (n : Nat) (xs : List Value) (hs : a.eval s = v)
    (A : Option Addr) (m c : Nat) (news : List Value) (hx : a.eval x = .slice A m c) (h1 : ∀ u ∈ news, u.oneCell' = true)
    (h63 : n + m ≤ maxLen) (hbytes : (n + m) * bytes ≤ 140737488355328) (hbase : base ≤ w.heap.size) (hB : B i = true)
    (hown : ∀ w1, Gr w w1 → w1.ownsRow base e sz v n xs) (hr : Sl w A m sz news)
    (h : ∀ w1, Gr w w1 → ∀ A' c' w', Appd w1 w' base e sz v A' (n + m) c' (xs ++ news) → LexG P ops B w0 R r (a.put (some d) (.slice A' (n + m) c')) w') : LexG P ops B w0 R ((i, .s) :: r) a w := by
  refine lexG_s hi fun w1 hG K hK => ?_
  have hw : Region.wanted o (yielded ops a.tmps) = true := by simp [Region.wanted, hgd]
  rw [if_pos hw]
  refine wp_app s x t ho hT base v n xs hs (hown w1 hG) A m c news hx (hr.gr hG) h1 h63 hbytes (Nat.le_trans hbase hG.size) fun A' c' w' h' => ?_
  exact hK _ _ (fun hb => by rw [hB] at hb; cases hb) (by rw [hd]; exact h w1 hG A' c' w' h')

/-- A new row of one element (what append(s, v) appends). -/
theorem lexG_row1 {ops : Array Oper} {B : Nat → Bool} {R : Act → World → Prop} {w0 : World} {i : Nat} {r : List (Nat × RK)} {d : Tmp} (hi : ops[i]? = some o) (hgd : o.guard = none) (hd : o.dst = some d) (t : TypeId) (y : Operand) (ho : o.op = .buildSlice t 1 #[(0, y)])
    {e : TypeId} {sz bytes : Nat} (hT : ElemTy P t e sz bytes) (cs : List Value) (hy : (a.eval y).cells = cs.toArray) (hcs : cs.length = sz)
    (hrun : ∀ w', (Instr.buildSlice t 1 #[(0, a.eval y)]).run P w' = .ok (.slice (some ⟨w'.heap.size, 0, none⟩) 1 1) (w'.alloc (.cells cs.toArray e)))
    (h : ∀ w1, Gr w w1 → LexG P ops B w0 R r (a.put (some d) (.slice (some ⟨w1.heap.size, 0, none⟩) 1 1)) (w1.alloc (.cells cs.toArray e))) : LexG P ops B w0 R ((i, .s) :: r) a w := by
  refine lexG_s hi fun w1 hG K hK => ?_
  have hw : Region.wanted o (yielded ops a.tmps) = true := by simp [Region.wanted, hgd]
  rw [if_pos hw]
  unfold Oper.wp execOp
  simp only [ho, Sem.run_bind, Sem.run_pure, Result.andThen_ok, List.map_toArray, List.map_cons, List.map_nil, hrun w1, Oper.upon]
  exact hK _ _ (fun _ => (Gr.refl w1).alloc _) (by rw [hd]; exact h w1 hG)
end

/-- A new block reads as a row. -/
theorem Sl.new (w : World) (e : TypeId) (sz : Nat) (cs : List Value) (n : Nat) (h : cs.length = n * sz) : Sl (w.alloc (.cells cs.toArray e)) (some ⟨w.heap.size, 0, none⟩) n sz cs :=
  ⟨h, fun _ => ⟨w.heap.size, 0, rfl, by simp, fun j u hu => by
    rw [Nat.zero_add]
    exact row_cell (t := e) (heap_alloc_new w _) j (by simpa using hu)⟩⟩

section
variable {w w' : World} {base e sz n c : Nat} {v : Value} {A : Option Addr} {xs : List Value}
theorem Appd.gr {w0 : World} (h : Appd w w' base e sz v A n c xs) {m : Nat} {ys : List Value} (hv : w.ownsRow base e sz v m ys) (hG : Gr w0 w) (hb : w0.heap.size ≤ base) : Gr w0 w' :=
  hG.grown h.grown fun k hk => Nat.le_trans hb (World.ownsRow.lt hv k hk).1
/-- A block of another element type is as it was. -/
theorem Appd.block {g t : Nat} {cs : Array Value} (h : Appd w w' base e sz v A n c xs) {m : Nat} {ys : List Value} (hv : w.ownsRow base e sz v m ys) (hg : w.heap[g]? = some (.cells cs t (0, 0))) (hne : t ≠ e) : w'.heap[g]? = some (.cells cs t (0, 0)) := by
  refine (h.grown.block g (row_lt hg) fun he => ?_).trans hg
  rcases hv.2 with ⟨rfl, _⟩ | ⟨g', cap, cur, rfl, _, hh, _⟩
  · cases he
  · have : g = g' := by simpa [Value.ownBlock] using he
    subst this
    rw [hh] at hg
    injection hg with hg
    injection hg with _ hg
    exact hne hg.symm
theorem Appd.size (h : Appd w w' base e sz v A n c xs) : w.heap.size ≤ w'.heap.size := h.grown.size
end

theorem own_gr {w w' : World} {base e sz n : Nat} {v : Value} {xs : List Value} (h : w.ownsRow base e sz v n xs) (hG : Gr w w') : w'.ownsRow base e sz v n xs :=
  h.kept (row := none) ⟨hG.os, hG.tape, hG.output, hG.size, fun k hk _ => hG.block hk⟩ (by cases v.ownBlock <;> simp)

/-- A store into a block of another element type leaves an owned row as it is. -/
theorem own_setRow {w : World} {base e sz n g t : Nat} {v : Value} {xs : List Value} {cur cs : Array Value} (h : w.ownsRow base e sz v n xs) (hg : w.heap[g]? = some (.cells cur t (0, 0))) (hne : t ≠ e) : (w.setRow g cs).ownsRow base e sz v n xs := by
  refine ⟨h.1, ?_⟩
  rcases h.2 with hn | ⟨g', cap, cur', rfl, hb, hgg, rest⟩
  · exact .inl hn
  · refine .inr ⟨g', cap, cur', rfl, hb, ?_, rest⟩
    rw [setRow_else ?_]
    · exact hgg
    · rintro rfl
      rw [hgg] at hg
      injection hg with hg
      injection hg with _ hg
      exact hne hg.symm

end Go.Proofs.Ythhpdlkkmgmdeaa
