/-
  A world that only grows; and one walk of a region that draws its order, where every operation but the last ones only makes the world grow.
-/
import Derived.WalkKit
import Derived.WalkLawsBesides
import Derived.WalkSpells
import Derived.Deep.QuietTactic
import Derived.BigQuiet
set_option linter.unusedVariables false
set_option linter.unusedSimpArgs false
namespace Go.Proofs.Ythhpdlkkmgmdeaa
open Go Go.RowKit

/-- Whatever there was is as it was. -/
def Gr (w w' : World) : Prop := Below w.heap.size w w'

theorem Gr.size {w w' : World} (h : Gr w w') : w.heap.size ≤ w'.heap.size := Below.size h
theorem Gr.refl (w : World) : Gr w w := Below.refl _ _
theorem Gr.trans {a b c : World} (h : Gr a b) (k : Gr b c) : Gr a c := Below.trans h (Below.mono k h.size)
theorem Gr.trans' {a b c : World} (h : Gr a b) (k : Below a.heap.size b c) : Gr a c := Below.trans h k
theorem Gr.drew {a w : World} (h : Gr a w) : Gr a w.drew := Below.drew h
theorem Gr.drewN {a w : World} (h : Gr a w) (n : Nat) : Gr a (w.drewN n) := ⟨h.os, h.tape, h.output, h.size, h.block⟩
theorem Gr.alloc {a w : World} (h : Gr a w) (o : Obj) : Gr a (w.alloc o) := Below.alloc h h.size o
theorem Gr.setCell {a w : World} (h : Gr a w) {p : Addr} (hp : a.heap.size ≤ p.block) (u : Value) : Gr a (w.setCell p u) := Below.setCell h hp u
theorem Gr.grown {a w w' : World} {row : Option Nat} (h : Gr a w) (hg : w.grownBy w' row) (hr : ∀ k, row = some k → a.heap.size ≤ k) : Gr a w' := Below.grown h hg h.size hr
theorem Gr.block {w w' : World} (h : Gr w w') {k : Nat} (hk : k < w.heap.size) : w'.heap[k]? = w.heap[k]? := Below.block h k hk
theorem Gr.heap {w w' : World} (h : Gr w w') {k : Nat} {o : Obj} (hk : w.heap[k]? = some o) : w'.heap[k]? = some o :=
  (h.block (by rcases Nat.lt_or_ge k w.heap.size with h1 | h1; exact h1; rw [Array.getElem?_eq_none h1] at hk; cases hk)).trans hk
theorem Gr.cell {w w' : World} (h : Gr w w') {a : Addr} {v : Value} (hc : w.cell? a = some v) : w'.cell? a = some v :=
  (Below.cell h (World.block_lt_of_cell? w a hc)).trans hc
theorem Gr.frozen {w w' : World} (h : Gr w w') {a : Addr} (hk : a.block < w.heap.size) : w'.frozen? a = w.frozen? a := Below.frozen h hk

section
variable {P : Program} {ops : Array Oper} {md : Region.Mode}

/-- What stands behind a region, where nothing else than its end may be come to. -/
def endOnly (R : Act → World → Prop) : Exit → Act → World → Prop
  | .normal, a, w => R a w
  | _, _, _ => False

theorem endOnly_panic {R : Act → World → Prop} {c : List PanicEntry} {a a' : Act} {w : World} (h : endOnly R (.panic c) a w) : endOnly R (.panic c) a' w := h

/-- One operation, apart from the i-th: whether the i-th's value is in its place already makes no difference to it. -/
theorem wpOp_past {R : Act → World → Prop} {j : Nat} {oi oj : Oper} {v : Value} (hj : ops[j]? = some oj) (hap : oi.apart ops oj = true)
    (hsj : ∀ cs b, oj.op ≠ .select cs b) {Y : Act → Prop} (keep : ∀ a u, Y a → Y (a.put oj.dst u)) (keepD : ∀ (a : Act) d, Y a → Y { a with defers := d :: a.defers })
    {K : Act → World → Prop} {a : Act} {w : World} (hy : Y a) (h : wpOp P ops (endOnly R) j K (a.put oi.dst v) w) :
    wpOp P ops (endOnly R) j (fun a' w' => Y a' ∧ K (a'.put oi.dst v) w') a w := by
  obtain ⟨h1, h2, h3⟩ := Oper.apart_spec hap
  unfold wpOp at *
  simp only [hj] at *
  rw [wanted_put oj a oi.dst v h1] at h
  split
  · rename_i hw
    simp only [hw, if_true] at h
    rcases h with h | ⟨hasks, hlets⟩
    case inr =>
      obtain ⟨_, _, hf⟩ := hlets
      exact hf.elim
    refine .inl ?_
    unfold Oper.wp at *
    rw [execOp_put oj hsj a oi.dst v h1] at h
    generalize (execOp a.eval oj).run P w = r at *
    cases r with
    | ok n w' =>
      cases n <;> simp only [Oper.upon] at h ⊢
      case value u => exact ⟨keep a u hy, by rw [← Act.put_comm a v u h2]; exact h⟩
      case skip => exact ⟨keep a _ hy, by rw [← Act.put_comm a v undef h2]; exact h⟩
      case defer d =>
        refine ⟨keep _ _ (keepD a d hy), ?_⟩
        rw [← Act.put_comm _ v undef h2, ← Act.put_defers]
        exact h
      case enter f args =>
        refine Calls.mono h fun e w'' he => ?_
        cases e with
        | returned u => exact ⟨keep a u hy, by rw [← Act.put_comm a v u h2]; exact he⟩
        | panicked c => exact he
        | outgrown => exact he
      case row row args => exact Rows.mono h fun u w'' he => ⟨keep a u hy, by rw [← Act.put_comm a v u h2]; exact he⟩
    | halt x w' =>
      cases x <;> simp only [Oper.upon] at h ⊢
      case panic u => exact h
  · rename_i hw
    simp only [hw] at h
    exact ⟨keep a _ hy, by rw [← Act.put_comm a v undef h2]; exact h⟩

/-- Whatever order is picked from here on, however the world grows between two operations; all but those of B let it grow only. -/
def wpG (P : Program) (md : Region.Mode) (ops : Array Oper) (R : Act → World → Prop) (B : Nat → Bool) : Nat → Array Bool → Act → World → Prop
  | 0, listed, a, w => Region.ready md ops listed = [] ∧ ∀ w1, Gr w w1 → R a w1
  | f + 1, listed, a, w => ∀ w1, Gr w w1 → (Region.ready md ops listed = [] → R a w1) ∧
    ∀ i ∈ Region.ready md ops listed, wpOp P ops (endOnly R) i (fun a' w' => (B i = false → Gr w1 w') ∧ wpG P md ops R B f (listed.setIfInBounds i true) a' w') a w1

variable {R : Act → World → Prop} {B : Nat → Bool}

theorem wpG_up {w w' : World} (hw : Gr w w') : ∀ {f : Nat} {listed : Array Bool} {a : Act}, wpG P md ops R B f listed a w → wpG P md ops R B f listed a w'
  | 0, _, _, h => ⟨h.1, fun w1 h1 => h.2 w1 (hw.trans h1)⟩
  | _ + 1, _, _, h => fun w1 h1 => h w1 (hw.trans h1)

theorem wpAny_of_G : ∀ (f : Nat) (listed : Array Bool) (a : Act) (w : World), wpG P md ops R B f listed a w → wpAny P md ops (endOnly R) f listed a w
  | 0, _, _, w, h => ⟨h.1, h.2 w (Gr.refl w)⟩
  | f + 1, _, _, w, h => ⟨(h w (Gr.refl w)).1, fun i hi => wpOp_mono (fun a' w' h' => wpAny_of_G f _ a' w' h'.2) ((h w (Gr.refl w)).2 i hi)⟩

theorem wpG_done {listed : Array Bool} {a : Act} {w : World} (hr : Region.ready md ops listed = []) (h : ∀ w1, Gr w w1 → R a w1) : ∀ f, wpG P md ops R B f listed a w
  | 0 => ⟨hr, h⟩
  | _ + 1 => fun w1 h1 => ⟨fun _ => h w1 h1, by rw [hr]; simp⟩

/-- What yields its value in whatever world may be taken first. -/
theorem wpG_pure {i : Nat} {oi : Oper} {v : Value} (hi : ops[i]? = some oi) (hsel : ∀ (j : Nat) (o : Oper) cs b, ops[j]? = some o → o.op ≠ .select cs b) :
    ∀ (f : Nat) (listed : Array Bool) (a : Act) (w : World),
      (∀ j oj, ops[j]? = some oj → j ≠ i → listed.getD j true = false → (∀ e ∈ oj.after, Region.binds md e = true → e.on ≠ i) → oi.apart ops oj = true) →
      i ∈ Region.ready md ops listed → Yields P ops oi v a →
      wpG P md ops R B f (listed.setIfInBounds i true) (a.put oi.dst v) w → wpG P md ops R B (f + 1) listed a w := by
  intro f
  induction f with
  | zero =>
    intro listed a w _ hr hy H w1 h1
    refine ⟨fun h => (by rw [h] at hr; cases hr), fun j hj => ?_⟩
    by_cases hji : j = i
    · subst hji; exact hy.wpOp hi ⟨fun _ => Gr.refl _, wpG_up h1 H⟩
    · have := ready_mono hj hji
      rw [H.1] at this
      cases this
  | succ f ih =>
    intro listed a w hfree hr hy H w1 h1
    refine ⟨fun h => (by rw [h] at hr; cases hr), fun j hj => ?_⟩
    by_cases hji : j = i
    · subst hji; exact hy.wpOp hi ⟨fun _ => Gr.refl _, wpG_up h1 H⟩
    · have hs := (H w1 h1).2 j (ready_mono hj hji)
      obtain ⟨hjun, oj, hoj, hall⟩ := mem_ready.1 hj
      have hnot : ∀ e ∈ oj.after, Region.binds md e = true → e.on ≠ i := fun e he hb heq => by
        have h1 := hall e he hb
        have h0 := (mem_ready.1 hr).1
        rw [heq] at h1
        rcases Nat.lt_or_ge i listed.size with h' | h'
        · simp [h'] at h0 h1; rw [h0] at h1; cases h1
        · simp [Array.getElem?_eq_none h'] at h1
      have hap := hfree j oj hoj hji hjun hnot
      obtain ⟨p1, p2, p3⟩ := Oper.apart_spec hap
      have h2 := wpOp_past (Y := Yields P ops oi v) hoj hap (fun cs b => hsel j oj cs b hoj)
        (fun a u hy => hy.of_same (execOp_put oi (fun cs b => hsel i oi cs b hi) a oj.dst u p3) (wanted_put oi a oj.dst u p3)) (fun a d hy => hy.of_same rfl rfl) hy hs
      have hfree' : ∀ k ok, ops[k]? = some ok → k ≠ i → (listed.setIfInBounds j true).getD k true = false →
          (∀ e ∈ ok.after, Region.binds md e = true → e.on ≠ i) → oi.apart ops ok = true := fun k ok hk hki hun hno => by
        refine hfree k ok hk hki ?_ hno
        by_cases hjk : j = k
        · subst hjk; exact hjun
        · rw [getD_set_ne true hjk] at hun; exact hun
      refine wpOp_mono (fun a' w' h3 => ⟨h3.2.1, ih (listed.setIfInBounds j true) a' w' hfree' (ready_mono hr (Ne.symm hji)) h3.1 ?_⟩) h2
      rw [Array.setIfInBounds_comm _ _ hji]
      exact h3.2.2

/-- In every world grown out of w0 it yields v, and lets the world grow. -/
def YieldsG (P : Program) (ops : Array Oper) (w0 : World) (o : Oper) (v : Value) (a : Act) : Prop :=
  (Region.wanted o (yielded ops a.tmps) = true ∧ ∀ w, Gr w0 w → o.quietAt P a (Gr w) w v) ∨
  (Region.wanted o (yielded ops a.tmps) = false ∧ v = undef)

theorem YieldsG.of_same {w0 : World} {o : Oper} {v : Value} {a a' : Act} (hy : YieldsG P ops w0 o v a) (he : execOp a'.eval o = execOp a.eval o)
    (hw : Region.wanted o (yielded ops a'.tmps) = Region.wanted o (yielded ops a.tmps)) : YieldsG P ops w0 o v a' := by
  unfold YieldsG Oper.quietAt at *
  rw [he, hw]
  exact hy

theorem YieldsG.wpOp {w0 : World} {i : Nat} {o : Oper} {v : Value} {a : Act} (hi : ops[i]? = some o) (hy : YieldsG P ops w0 o v a) {Q : Exit → Act → World → Prop}
    {K : Act → World → Prop} {w : World} (hw0 : Gr w0 w) (h : ∀ w', Gr w w' → K (a.put o.dst v) w') : wpOp P ops Q i K a w := by
  unfold Go.wpOp
  simp only [hi]
  rcases hy with ⟨hw, hv⟩ | ⟨hw, rfl⟩
  · simp only [hw, if_true]
    left
    have h3 := hv w hw0
    unfold Oper.quietAt at h3
    unfold Oper.wp
    generalize (execOp a.eval o).run P w = r at *
    cases r with
    | ok n w' =>
      cases n <;> simp only [Oper.quietUpon] at h3 <;> simp only [Oper.upon]
      case value u => obtain ⟨e1, e2⟩ := h3; rw [e1, e2]; exact h w (Gr.refl w)
      case skip => obtain ⟨e1, e2⟩ := h3; rw [e1, ← e2]; exact h w (Gr.refl w)
      case enter f args =>
        obtain ⟨e1, hc⟩ := h3
        rw [e1]
        exact hc.mono fun e w'' ⟨he, hw''⟩ => by subst he; exact h _ hw''
    | halt x w' => simp only [Oper.quietUpon] at h3
  · simp only [hw, Bool.false_eq_true, if_false]; exact h w (Gr.refl w)

/-- What stands in is closed: whatever is listed, what it waits for is listed. -/
def Closed (md : Region.Mode) (ops : Array Oper) (listed : Array Bool) : Prop :=
  listed.size = ops.size ∧ ∀ j oj, ops[j]? = some oj → listed.getD j false = true → ∀ e ∈ oj.after, Region.binds md e = true → listed.getD e.on false = true

theorem Closed.set {i : Nat} {listed : Array Bool} (h : Closed md ops listed) (hi : i ∈ Region.ready md ops listed) : Closed md ops (listed.setIfInBounds i true) := by
  obtain ⟨_, oi, hoi, hall⟩ := mem_ready.1 hi
  refine ⟨by simp [h.1], fun j oj hj hl e he hb => ?_⟩
  by_cases hij : i = j
  · subst hij
    have : oj = oi := Option.some.inj (hj.symm.trans hoi)
    subst this
    exact getD_set_true (hall e he hb)
  · rw [getD_set_ne false hij] at hl
    exact getD_set_true (h.2 j oj hj hl e he hb)

theorem Closed.start : Closed md ops (Array.replicate ops.size false) :=
  ⟨by simp, fun j oj _ hl => by
    rcases Nat.lt_or_ge j ops.size with h | h
    · simp [h] at hl
    · simp [h] at hl⟩

/-- t waits for i, by however many steps. -/
def ancB (md : Region.Mode) (ops : Array Oper) : Nat → Nat → Nat → Bool
  | 0, _, _ => false
  | f + 1, t, i => match ops[t]? with
    | none => false
    | some o => o.after.any (fun e => Region.binds md e && e.on == i) || o.after.any fun e => Region.binds md e && ancB md ops f e.on i

theorem anc_listed {listed : Array Bool} (hc : Closed md ops listed) {i : Nat} : ∀ (f t : Nat), ancB md ops f t i = true →
    (∀ o, ops[t]? = some o → ∀ e ∈ o.after, Region.binds md e = true → listed.getD e.on false = true) → listed.getD i false = true
  | 0, _, h, _ => by simp [ancB] at h
  | f + 1, t, h, hl => by
    unfold ancB at h
    cases ho : ops[t]? with
    | none => simp [ho] at h
    | some o =>
      simp only [ho, Bool.or_eq_true] at h
      rcases h with h | h
      · obtain ⟨e, he, hb⟩ := Array.any_eq_true'.1 h
        simp only [Bool.and_eq_true, beq_iff_eq] at hb
        rw [← hb.2]; exact hl o ho e he hb.1
      · obtain ⟨e, he, hb⟩ := Array.any_eq_true'.1 h
        simp only [Bool.and_eq_true] at hb
        exact anc_listed hc f e.on hb.2 fun o' ho' e' he' hb' => hc.2 e.on o' ho' (hl o ho e he hb.1) e' he' hb'

theorem anc_not_ready {listed : Array Bool} (hc : Closed md ops listed) {i t f : Nat} (ha : ancB md ops f t i = true) (hi : listed.getD i true = false) : t ∉ Region.ready md ops listed := by
  intro ht
  obtain ⟨_, o, ho, hall⟩ := mem_ready.1 ht
  have := anc_listed hc f t ha (fun o' ho' e he hb => by
    have : o' = o := Option.some.inj (ho'.symm.trans ho)
    subst this
    exact hall e he hb)
  rcases Nat.lt_or_ge i listed.size with h' | h'
  · simp [h'] at hi this; rw [hi] at this; cases this
  · simp [Array.getElem?_eq_none h'] at this

theorem anc_not_listed {listed : Array Bool} (hc : Closed md ops listed) {i t f : Nat} (ha : ancB md ops f t i = true) (hi : listed.getD i true = false) : listed.getD t false = false := by
  cases hl : listed.getD t false with
  | false => rfl
  | true =>
    have := anc_listed hc f t ha (fun o' ho' e he hb => hc.2 t o' ho' hl e he hb)
    rcases Nat.lt_or_ge i listed.size with h' | h'
    · simp [h'] at hi this; rw [hi] at this; cases this
    · simp [Array.getElem?_eq_none h'] at this

/-- What yields its value in every world grown out of w0, and lets the world grow, may be taken first, if those that do not let it grow only wait for it. -/
theorem wpG_take {w0 : World} {i : Nat} {oi : Oper} {v : Value} (hi : ops[i]? = some oi) (hsel : ∀ (j : Nat) (o : Oper) cs b, ops[j]? = some o → o.op ≠ .select cs b)
    (hB : ∀ b, B b = true → b < ops.size → ∃ f, ancB md ops f b i = true) :
    ∀ (f : Nat) (listed : Array Bool) (a : Act) (w : World), Closed md ops listed → Gr w0 w →
      (∀ j oj, ops[j]? = some oj → j ≠ i → listed.getD j true = false → (∀ e ∈ oj.after, Region.binds md e = true → e.on ≠ i) → oi.apart ops oj = true) →
      i ∈ Region.ready md ops listed → YieldsG P ops w0 oi v a →
      wpG P md ops R B f (listed.setIfInBounds i true) (a.put oi.dst v) w → wpG P md ops R B (f + 1) listed a w := by
  intro f
  induction f with
  | zero =>
    intro listed a w _ hw _ hr hy H w1 h1
    refine ⟨fun h => (by rw [h] at hr; cases hr), fun j hj => ?_⟩
    by_cases hji : j = i
    · subst hji; exact hy.wpOp hi (hw.trans h1) fun w' h' => ⟨fun _ => h', wpG_up (h1.trans h') H⟩
    · have := ready_mono hj hji
      rw [H.1] at this
      cases this
  | succ f ih =>
    intro listed a w hc hw hfree hr hy H w1 h1
    refine ⟨fun h => (by rw [h] at hr; cases hr), fun j hj => ?_⟩
    by_cases hji : j = i
    · subst hji; exact hy.wpOp hi (hw.trans h1) fun w' h' => ⟨fun _ => h', wpG_up (h1.trans h') H⟩
    · have hs := (H w1 h1).2 j (ready_mono hj hji)
      obtain ⟨hjun, oj, hoj, hall⟩ := mem_ready.1 hj
      have hjB : B j = false := by
        cases hb : B j with
        | false => rfl
        | true =>
          obtain ⟨f', ha⟩ := hB j hb (Array.getElem?_eq_some_iff.1 hoj).1
          exact absurd hj (anc_not_ready hc ha (mem_ready.1 hr).1)
      have hnot : ∀ e ∈ oj.after, Region.binds md e = true → e.on ≠ i := fun e he hb heq => by
        have h1 := hall e he hb
        have h0 := (mem_ready.1 hr).1
        rw [heq] at h1
        rcases Nat.lt_or_ge i listed.size with h' | h'
        · simp [h'] at h0 h1; rw [h0] at h1; cases h1
        · simp [Array.getElem?_eq_none h'] at h1
      have hap := hfree j oj hoj hji hjun hnot
      obtain ⟨p1, p2, p3⟩ := Oper.apart_spec hap
      have h2 := wpOp_past (Y := YieldsG P ops w0 oi v) hoj hap (fun cs b => hsel j oj cs b hoj)
        (fun a u hy => hy.of_same (execOp_put oi (fun cs b => hsel i oi cs b hi) a oj.dst u p3) (wanted_put oi a oj.dst u p3)) (fun a d hy => hy.of_same rfl rfl) hy hs
      have hfree' : ∀ k ok, ops[k]? = some ok → k ≠ i → (listed.setIfInBounds j true).getD k true = false →
          (∀ e ∈ ok.after, Region.binds md e = true → e.on ≠ i) → oi.apart ops ok = true := fun k ok hk hki hun hno => by
        refine hfree k ok hk hki ?_ hno
        by_cases hjk : j = k
        · subst hjk; exact hjun
        · rw [getD_set_ne true hjk] at hun; exact hun
      refine wpOp_mono (fun a' w' h3 => ⟨h3.2.1, ih (listed.setIfInBounds j true) a' w' (hc.set hj) ((hw.trans h1).trans (h3.2.1 hjB)) hfree' (ready_mono hr (Ne.symm hji)) h3.1 ?_⟩) h2
      rw [Array.setIfInBounds_comm _ _ hji]
      exact h3.2.2

/-- How an operation is met: p: in whatever world; t: in whatever grown world; s: as the next one. -/
inductive RK where
  | p | t | s

/-- The walk of one order. -/
def LexG (P : Program) (ops : Array Oper) (B : Nat → Bool) (w0 : World) (R : Act → World → Prop) : List (Nat × RK) → Act → World → Prop
  | [], a, w => ∀ w1, Gr w w1 → R a w1
  | (i, .p) :: r, a, w => ∃ o v, ops[i]? = some o ∧ Yields P ops o v a ∧ LexG P ops B w0 R r (a.put o.dst v) w
  | (i, .t) :: r, a, w => ∃ o v, ops[i]? = some o ∧ YieldsG P ops w0 o v a ∧ LexG P ops B w0 R r (a.put o.dst v) w
  | (i, .s) :: r, a, w => ∃ o, ops[i]? = some o ∧ ∀ w1, Gr w w1 →
      if Region.wanted o (yielded ops a.tmps) then o.wp P a w1 (fun a' w' => (B i = false → Gr w1 w') ∧ LexG P ops B w0 R r a' w') (fun _ _ _ => False) else LexG P ops B w0 R r (a.put o.dst undef) w1

def lexGOK (md : Region.Mode) (ops : Array Oper) (B : Nat → Bool) : List (Nat × RK) → Array Bool → Bool
  | [], listed => (Region.ready md ops listed).isEmpty
  | (i, .p) :: r, listed => (Region.ready md ops listed).contains i && Region.free md ops listed i && lexGOK md ops B r (listed.setIfInBounds i true)
  | (i, .t) :: r, listed => (Region.ready md ops listed).contains i && Region.free md ops listed i && ((List.range ops.size).all fun b => !B b || ancB md ops ops.size b i) && lexGOK md ops B r (listed.setIfInBounds i true)
  | (i, .s) :: r, listed => decide (Region.ready md ops listed = [i]) && lexGOK md ops B r (listed.setIfInBounds i true)

theorem endOnly_wp {o : Oper} {a : Act} {w : World} {K : Act → World → Prop} (h : o.wp P a w K (fun _ _ _ => False)) : o.wp P a w K (endOnly R) := by
  unfold Oper.wp at *
  generalize (execOp a.eval o).run P w = r at *
  cases r with
  | ok n w' =>
    cases n <;> simp only [Oper.upon] at h ⊢ <;> exact h
  | halt x w' => cases x <;> simp only [Oper.upon] at h ⊢

theorem LexG_up {w0 w w' : World} (hw : Gr w w') : ∀ {l : List (Nat × RK)} {a : Act}, LexG P ops B w0 R l a w → LexG P ops B w0 R l a w'
  | [], _, h => fun w1 h1 => h w1 (hw.trans h1)
  | (_, .p) :: _, _, ⟨o, v, ho, hy, hr⟩ => ⟨o, v, ho, hy, LexG_up hw hr⟩
  | (_, .t) :: _, _, ⟨o, v, ho, hy, hr⟩ => ⟨o, v, ho, hy, LexG_up hw hr⟩
  | (_, .s) :: _, _, ⟨o, ho, h⟩ => ⟨o, ho, fun w1 h1 => h w1 (hw.trans h1)⟩

theorem wpG_of_lex (hsel : Region.noSelect ops = true) (w0 : World) : ∀ (l : List (Nat × RK)) (listed : Array Bool) (a : Act) (w : World), Closed md ops listed →
    ((∀ b, B b = true → listed.getD b false = false) → Gr w0 w) → lexGOK md ops B l listed = true → LexG P ops B w0 R l a w → wpG P md ops R B l.length listed a w
  | [], _, _, _, _, _, hB, h => ⟨by simpa [lexGOK] using hB, h⟩
  | (i, .p) :: r, listed, a, w, hc, hG, hB, h => by
    obtain ⟨o, v, ho, hy, hr⟩ := h
    simp only [lexGOK, Bool.and_eq_true] at hB
    have hi : i ∈ Region.ready md ops listed := by simpa using hB.1.1
    refine wpG_pure ho (Region.noSelect_spec hsel) r.length listed a w (Region.free_spec ho hB.1.2) hi hy (wpG_of_lex hsel w0 r _ _ _ (hc.set hi) (fun hb => hG fun b hb' => ?_) hB.2 hr)
    have := hb b hb'
    cases hl : listed.getD b false with
    | false => rfl
    | true => rw [getD_set_true hl] at this; cases this
  | (i, .t) :: r, listed, a, w, hc, hG, hB, h => by
    obtain ⟨o, v, ho, hy, hr⟩ := h
    simp only [lexGOK, Bool.and_eq_true] at hB
    have hi : i ∈ Region.ready md ops listed := by simpa using hB.1.1.1
    have hanc : ∀ b, B b = true → b < ops.size → ancB md ops ops.size b i = true := fun b hb hlt => by
      have := List.all_eq_true.1 hB.1.2 b (List.mem_range.2 hlt)
      simpa [hb] using this
    have hw : Gr w0 w := hG fun b hb => by
      rcases Nat.lt_or_ge b ops.size with hlt | hge
      · exact anc_not_listed hc (hanc b hb hlt) (mem_ready.1 hi).1
      · have : listed.size ≤ b := by rw [hc.1]; exact hge
        simp [Array.getElem?_eq_none this]
    exact wpG_take ho (Region.noSelect_spec hsel) (fun b hb hlt => ⟨_, hanc b hb hlt⟩) r.length listed a w hc hw (Region.free_spec ho hB.1.1.2) hi hy (wpG_of_lex hsel w0 r _ _ _ (hc.set hi) (fun _ => hw) hB.2 hr)
  | (i, .s) :: r, listed, a, w, hc, hG, hB, h => by
    obtain ⟨o, ho, h⟩ := h
    simp only [lexGOK, Bool.and_eq_true, decide_eq_true_eq] at hB
    have hi : i ∈ Region.ready md ops listed := by rw [hB.1]; simp
    intro w1 h1
    refine ⟨fun h0 => (by rw [hB.1] at h0; cases h0), fun j hj => ?_⟩
    have hji : j = i := by rw [hB.1] at hj; simpa using hj
    subst hji
    have hs := h w1 h1
    have hkeep : ∀ w', (B j = false → Gr w1 w') → (∀ b, B b = true → (listed.setIfInBounds j true).getD b false = false) → Gr w0 w' := fun w' hg hb => by
      have hjB : B j = false := by
        cases hbj : B j with
        | false => rfl
        | true =>
          have h2 := hb j hbj
          have hlt : j < listed.size := by rw [hc.1]; exact (Array.getElem?_eq_some_iff.1 ho).1
          simp [hlt] at h2
      have h3 : Gr w0 w := hG fun b hb' => by
        have h2 := hb b hb'
        cases hl : listed.getD b false with
        | false => rfl
        | true => rw [getD_set_true hl] at h2; cases h2
      exact (h3.trans h1).trans (hg hjB)
    unfold wpOp
    simp only [ho]
    split
    · rename_i hw
      simp only [hw, if_true] at hs
      exact .inl (endOnly_wp (Oper.wp_mono (fun a' w' h' => ⟨h'.1, wpG_of_lex hsel w0 r _ a' w' (hc.set hi) (hkeep w' h'.1) hB.2 h'.2⟩) hs))
    · rename_i hw
      simp only [hw] at hs
      exact ⟨fun _ => Gr.refl _, wpG_of_lex hsel w0 r _ _ w1 (hc.set hi) (hkeep w1 fun _ => Gr.refl _) hB.2 hs⟩

/-- A region that draws its order, by the walk of one order. -/
theorem wp_region_lex {id : Nat} {Q : Exit → Act → World → Prop} {a : Act} {w : World} (l : List (Nat × RK)) (B : List Nat) (hm : P.follows .mixedOrders = true)
    (hB : (Region.noSelect ops && (l.length == ops.size) && lexGOK .any ops (fun i => B.contains i) l (Array.replicate ops.size false)) = true)
    (h : LexG P ops (fun i => B.contains i) w (fun a' w' => Q .normal a' w') l a w) : (Code.region id ops true).wp P Q a w := by
  simp only [Bool.and_eq_true, beq_iff_eq] at hB
  refine Code.wp_mono (Q := endOnly fun a' w' => Q .normal a' w') (fun e a' w' h' => by cases e <;> first | exact h' | exact h'.elim) (wp_region_any hm ?_)
  have hd : Gr w { w with drawn := w.drawn + 1 } := Gr.drew (Gr.refl w)
  have hx := wpG_of_lex (md := .any) hB.1.1 w l (Array.replicate ops.size false) a { w with drawn := w.drawn + 1 } Closed.start (fun _ => hd) hB.2 (LexG_up hd h)
  rw [hB.1.2] at hx
  exact wpAny_of_G _ _ _ _ hx

/-! The moves -/
variable {w0 : World} {i : Nat} {r : List (Nat × RK)} {a : Act} {w : World} {o : Oper}

theorem lexG_nil (h : ∀ w1, Gr w w1 → R a w1) : LexG P ops B w0 R [] a w := h

theorem lexG_p (ho : ops[i]? = some o) (h : ∀ K : Act → Prop, (∀ a, LexG P ops B w0 R r a w → K a) →
    if Region.wanted o (yielded ops a.tmps) then ∃ v, (∀ w', (execOp a.eval o).run P w' = .ok (.value v) w') ∧ K (a.put o.dst v) else K (a.put o.dst undef)) :
    LexG P ops B w0 R ((i, .p) :: r) a w := by
  have h1 := h _ (fun _ h => h)
  by_cases hw : Region.wanted o (yielded ops a.tmps) = true
  · rw [if_pos hw] at h1
    obtain ⟨v, hv, hk⟩ := h1
    exact ⟨o, v, ho, .inl ⟨hw, hv⟩, hk⟩
  · rw [if_neg hw] at h1
    exact ⟨o, undef, ho, .inr ⟨by simpa using hw, rfl⟩, h1⟩

/-- Where a guard says no. -/
theorem lexG_skip (ho : ops[i]? = some o) (hw : Region.wanted o (yielded ops a.tmps) = false) (h : LexG P ops B w0 R r (a.put o.dst undef) w) : LexG P ops B w0 R ((i, .t) :: r) a w :=
  ⟨o, undef, ho, .inr ⟨hw, rfl⟩, h⟩

theorem lexG_t {v : Value} (ho : ops[i]? = some o) (hw : Region.wanted o (yielded ops a.tmps) = true) (hv : ∀ w', Gr w0 w' → o.quietAt P a (Gr w') w' v)
    (h : LexG P ops B w0 R r (a.put o.dst v) w) : LexG P ops B w0 R ((i, .t) :: r) a w :=
  ⟨o, v, ho, .inl ⟨hw, hv⟩, h⟩

theorem lexG_s (ho : ops[i]? = some o) (h : ∀ w1, Gr w w1 → ∀ K : Act → World → Prop, (∀ a' w', (B i = false → Gr w1 w') → LexG P ops B w0 R r a' w' → K a' w') →
    if Region.wanted o (yielded ops a.tmps) then o.wp P a w1 K (fun _ _ _ => False) else K (a.put o.dst undef) w1) : LexG P ops B w0 R ((i, .s) :: r) a w := by
  refine ⟨o, ho, fun w1 h1 => ?_⟩
  by_cases hw : Region.wanted o (yielded ops a.tmps) = true
  · have h2 := h w1 h1 (fun a' w' => (B i = false → Gr w1 w') ∧ LexG P ops B w0 R r a' w') (fun _ _ h3 h4 => ⟨h3, h4⟩)
    rw [if_pos hw] at h2 ⊢
    exact h2
  · have h2 := h w1 h1 (fun a' w' => LexG P ops B w0 R r a' w') (fun _ _ _ h4 => h4)
    rw [if_neg hw] at h2 ⊢
    exact h2

theorem lexG_tx {d : Tmp} (ho : ops[i]? = some o) (hw : Region.wanted o (yielded ops a.tmps) = true) (hd : o.dst = some d) (h : ∃ v, (∀ w', Gr w0 w' → o.quietAt P a (Gr w') w' v) ∧ LexG P ops B w0 R r (a.put (some d) v) w) :
    LexG P ops B w0 R ((i, .t) :: r) a w :=
  let ⟨_, hv, h⟩ := h
  lexG_t ho hw hv (hd ▸ h)

theorem gr_of_same {f : FuncId} {args : Array Value} {v : Value} (h : Calls P f args w fun e w' => e = .returned v ∧ w = w') : Calls P f args w fun e w' => e = .returned v ∧ Gr w w' :=
  h.mono fun _ _ ⟨he, hw⟩ => ⟨he, hw ▸ Gr.refl _⟩

/-- A load of one cell. -/
theorem lexG_load {d : Tmp} {v : Value} {ty : TypeId} {x : Operand} {ad : Addr} (ho : ops[i]? = some o) (hw : Region.wanted o (yielded ops a.tmps) = true) (hd : o.dst = some d) (hop : o.op = .load ty x)
    (hx : a.eval x = .pointer (some ad)) (hr : ∀ w', Gr w0 w' → (Instr.loadAt ty (.pointer (some ad))).run P w' = .ok v w')
    (h : LexG P ops B w0 R r (a.put (some d) v) w) : LexG P ops B w0 R ((i, .t) :: r) a w := by
  refine lexG_t ho hw (fun w' hG => ?_) (hd ▸ h)
  unfold Oper.quietAt execOp
  simp only [hop, hx, Sem.run_bind, Sem.run_pure, hr w' hG, Result.andThen_ok, Oper.quietUpon]
  exact ⟨trivial, trivial⟩

/-- A load of one cell that is there. -/
theorem lexG_load1 {d : Tmp} {v : Value} {ty : TypeId} {x : Operand} {ad : Addr} (ho : ops[i]? = some o) (hw : Region.wanted o (yielded ops a.tmps) = true) (hd : o.dst = some d) (hop : o.op = .load ty x)
    (hx : a.eval x = .pointer (some ad)) (hagg : ∀ w, (isAgg ty).run P w = .ok false w) (hc : w0.cell? ad = some v)
    (h : LexG P ops B w0 R r (a.put (some d) v) w) : LexG P ops B w0 R ((i, .t) :: r) a w :=
  lexG_load ho hw hd hop hx (fun w' hG => by simp [Instr.loadAt, Instr.sureAddr, loadVar, hagg, hG.cell hc]) h

/-- A load of a row of cells that are there. -/
theorem lexG_loadn {d : Tmp} {cs : List Value} {ty : TypeId} {x : Operand} {ad : Addr} (ho : ops[i]? = some o) (hw : Region.wanted o (yielded ops a.tmps) = true) (hd : o.dst = some d) (hop : o.op = .load ty x)
    (hx : a.eval x = .pointer (some ad)) (hagg : ∀ w, (isAgg ty).run P w = .ok true w) (hs : ∀ w, (sizeOf ty).run P w = .ok cs.length w) (hc : ∀ j u, cs[j]? = some u → w0.cell? (ad.add j) = some u)
    (h : LexG P ops B w0 R r (a.put (some d) (.agg cs.toArray)) w) : LexG P ops B w0 R ((i, .t) :: r) a w :=
  lexG_load ho hw hd hop hx (fun w' hG => by
    have h2 := run_loadCells_list (P := P) w' ad cs (fun j u hu => hG.cell (hc j u hu))
    simp [Instr.loadAt, Instr.sureAddr, loadVar, hagg, hs, h2]) h

end
end Go.Proofs.Ythhpdlkkmgmdeaa
