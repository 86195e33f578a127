/-
  Words for memory: a slice that reads as a list; colours; what a fresh row says.
-/
import Derived.Test.YthhpdlkkmgmdeaaGrow
import Derived.Test.YthhpdlkkmgmdeaaRows
import Derived.KernelRfl
import Derived.StillTailTactics
import Derived.Deep.AppendLies
import Derived.Maps.AppendAt
set_option linter.unusedVariables false
set_option linter.unusedSimpArgs false
namespace Go.Proofs.Ythhpdlkkmgmdeaa
open Go Go.RowKit

/-! ### Numbers -/
/-- The byte of a number. -/
def b8 (e : Int) : UInt8 := UInt8.ofNat (e % 256).toNat
theorem toNat_b8 (e : Int) : ((b8 e).toNat : Int) = e % 256 := by
  unfold b8
  simp only [UInt8.toNat_ofNat']
  omega
theorem wrap_b8 (e : Int) : IntKind.u8.wrap e = ((b8 e).toNat : Int) := by rw [toNat_b8, IntKind.wrap_u8]
theorem b8_of (x : UInt8) (e : Int) (h : e = x.toNat) : b8 e = x := by
  have hx := x.toNat_lt
  apply UInt8.toNat_inj.1
  have := toNat_b8 e
  omega
theorem u8_bd (x : UInt8) : (0 : Int) ≤ (x.toNat : Int) ∧ (x.toNat : Int) ≤ 255 := by have := x.toNat_lt; omega
theorem wrap64_bd (n : Int) : -9223372036854775808 ≤ wrap64 n ∧ wrap64 n ≤ 9223372036854775807 := by unfold wrap64; omega
theorem ret_int {k : IntKind} {a b : Int} (h : a = b) : Ending.returned (.int k a) = .returned (.int k b) := by rw [h]
theorem ret_bool {a b : Bool} (h : a = b) : Ending.returned (.bool a) = .returned (.bool b) := by rw [h]

/-! ### Colours -/
structure Col where
  r : UInt8
  g : UInt8
  b : UInt8
  a : UInt8
deriving DecidableEq

abbrev Col.cells (c : Col) : List Value := [.int .u8 c.r.toNat, .int .u8 c.g.toNat, .int .u8 c.b.toNat, .int .u8 c.a.toNat]
abbrev Col.val (c : Col) : Value := .agg #[.int .u8 c.r.toNat, .int .u8 c.g.toNat, .int .u8 c.b.toNat, .int .u8 c.a.toNat]
def cols (l : List Col) : List Value := l.flatMap Col.cells
theorem cols_length (l : List Col) : (cols l).length = l.length * 4 := by
  induction l with
  | nil => rfl
  | cons c l ih => simp only [cols, List.flatMap_cons, List.length_append, List.length_cons, List.length_nil] at *; omega
theorem cols_append (l m : List Col) : cols (l ++ m) = cols l ++ cols m := by simp [cols]
theorem cols_at {l : List Col} {k : Nat} {c : Col} (h : l[k]? = some c) : ∀ j u, c.cells[j]? = some u → (cols l)[k * 4 + j]? = some u := by
  induction l generalizing k with
  | nil => simp at h
  | cons d l ih =>
    intro j u hj
    have hj4 : j < 4 := by
      rcases Nat.lt_or_ge j 4 with h4 | h4
      · exact h4
      · rw [List.getElem?_eq_none (by simpa using h4)] at hj; cases hj
    cases k with
    | zero =>
      have hd : d = c := by simpa using h
      subst hd
      simp only [cols, List.flatMap_cons, Nat.zero_mul, Nat.zero_add]
      rw [List.getElem?_append_left (by simpa using hj4)]
      exact hj
    | succ k =>
      have h' : l[k]? = some c := by simpa using h
      simp only [cols, List.flatMap_cons]
      rw [List.getElem?_append_right (by simp; omega)]
      have := ih h' j u hj
      simp only [cols] at this
      rw [← this]
      congr 1
      simp
      omega
theorem cols_one (l : List Col) : ∀ u ∈ cols l, u.oneCell' = true := by
  intro u hu
  simp only [cols, List.mem_flatMap] at hu
  obtain ⟨c, _, hc⟩ := hu
  simp only [List.mem_cons, List.not_mem_nil, or_false] at hc
  rcases hc with rfl | rfl | rfl | rfl <;> rfl
def ints (l : List Int) : List Value := l.map (Value.int .i64)

/-! ### A slice that reads as a list of cells -/
def Sl (w : World) (A : Option Addr) (n sz : Nat) (xs : List Value) : Prop :=
  xs.length = n * sz ∧ (0 < n → ∃ b off, A = some ⟨b, off, none⟩ ∧ b < w.heap.size ∧ ∀ j u, xs[j]? = some u → w.cell? ⟨b, off + j, none⟩ = some u)

section
variable {w w' : World} {A : Option Addr} {n sz : Nat} {xs : List Value}
theorem Sl.nil (w : World) (A : Option Addr) (sz : Nat) : Sl w A 0 sz [] := ⟨by simp, fun h => absurd h (by omega)⟩
theorem Sl.gr (h : Sl w A n sz xs) (hg : Gr w w') : Sl w' A n sz xs :=
  ⟨h.1, fun hn => by
    obtain ⟨b, off, e, hb, hc⟩ := h.2 hn
    exact ⟨b, off, e, Nat.lt_of_lt_of_le hb hg.size, fun j u hu => hg.cell (hc j u hu)⟩⟩
theorem Sl.at_ (h : Sl w A n sz xs) (hn : 0 < n) : ∃ b off, A = some ⟨b, off, none⟩ ∧ b < w.heap.size ∧ ∀ j u, xs[j]? = some u → w.cell? ⟨b, off + j, none⟩ = some u := h.2 hn
theorem Sl.of_own {base : Nat} {e : TypeId} {c : Nat} (h : w.ownsRow base e sz (.slice A n c) n xs) : Sl w A n sz xs := by
  refine ⟨h.1, fun hn => ?_⟩
  obtain ⟨g, cap, hv, _, hlt⟩ := h.form hn
  have hA : A = some ⟨g, 0, none⟩ := by injection hv
  subst hA
  exact ⟨g, 0, rfl, hlt, fun j u hu => by have := h.cells (g := g) rfl j u hu; simpa [Addr.add_lit] using this⟩
end

/-- The value that owns a row is a slice. -/
theorem own_form {w : World} {base : Nat} {e : TypeId} {sz n : Nat} {v : Value} {xs : List Value} (h : w.ownsRow base e sz v n xs) : ∃ A c, v = .slice A n c := by
  rcases h.2 with ⟨rfl, rfl⟩ | ⟨g, cap, cur, rfl, _⟩
  · exact ⟨none, 0, rfl⟩
  · exact ⟨some ⟨g, 0, none⟩, cap, rfl⟩

/-- A slice of colours. -/
def Cols (w : World) (A : Option Addr) (l : List Col) : Prop := Sl w A l.length 4 (cols l)
theorem Cols.gr {w w' : World} {A : Option Addr} {l : List Col} (h : Cols w A l) (hg : Gr w w') : Cols w' A l := Sl.gr h hg
theorem Cols.at_ {w : World} {A : Option Addr} {l : List Col} (h : Cols w A l) {k : Nat} (hk : k < l.length) :
    ∃ b off, A = some ⟨b, off, none⟩ ∧ b < w.heap.size ∧ ∀ k c, l[k]? = some c → ∀ j u, c.cells[j]? = some u → w.cell? ⟨b, off + (k * 4 + j), none⟩ = some u := by
  obtain ⟨b, off, rfl, hb, hc⟩ := Sl.at_ h (by omega)
  exact ⟨b, off, rfl, hb, fun k c hkc j u hu => hc _ u (cols_at hkc j u hu)⟩

/-- A slice of whole numbers. -/
def Ints (w : World) (A : Option Addr) (l : List Int) : Prop := Sl w A l.length 1 (ints l)
theorem Ints.gr {w w' : World} {A : Option Addr} {l : List Int} (h : Ints w A l) (hg : Gr w w') : Ints w' A l := Sl.gr h hg
theorem Ints.at_ {w : World} {A : Option Addr} {l : List Int} (h : Ints w A l) {k : Nat} (hk : k < l.length) :
    ∃ b off, A = some ⟨b, off, none⟩ ∧ b < w.heap.size ∧ ∀ (k : Nat) (x : Int), l[k]? = some x → w.cell? ⟨b, off + k, none⟩ = some (.int .i64 x) := by
  obtain ⟨b, off, rfl, hb, hc⟩ := Sl.at_ h (by omega)
  exact ⟨b, off, rfl, hb, fun k x hkx => hc k _ (by simp [ints, hkx])⟩

/-- A region that draws: what only reads, then the rest in its order; the world behind the draw written out. -/
theorem still_tail {P : Program} {id : Nat} {Q : Exit → Act → World → Prop} {a : Act} {w : World} {l : List Oper} (n : Nat) (hm : P.follows .mixedOrders = true) (hB : Region.lexTailB .any l.toArray n = true)
    (h : wpStill P l.toArray w.drew (fun a' => wpList P l.toArray Q (l.drop n) a' w.drew) (l.take n) a) : (Code.region id l.toArray true).wp P Q a w := wp_region_still_tail n hm hB h
/-- .. where all of it only reads. -/
theorem still_all {P : Program} {id : Nat} {Q : Exit → Act → World → Prop} {a : Act} {w : World} {l : List Oper} (hm : P.follows .mixedOrders = true) (hB : Region.lexB .any l.toArray = true)
    (h : wpStill P l.toArray w.drew (fun a' => Q .normal a' w.drew) l a) : (Code.region id l.toArray true).wp P Q a w := wp_region_still_lit hm hB h

/-! ### A store into a block that is known whole -/
def splice (cur : Array Value) (off : Nat) (cs : List Value) : Array Value := (cur.toList.take off ++ cs ++ cur.toList.drop (off + cs.length)).toArray
theorem Gr.setRow {a w : World} (h : Gr a w) {g : Nat} (hg : a.heap.size ≤ g) (cs : Array Value) : Gr a (w.setRow g cs) :=
  h.trans' ⟨rfl, rfl, rfl, by simp, fun k hk => setRow_other w g k cs (by omega)⟩
theorem setRow_at {w : World} {g : Nat} {cur : Array Value} {t : TypeId} (hb : w.heap[g]? = some (.cells cur t (0, 0))) (cs : Array Value) : (w.setRow g cs).heap[g]? = some (.cells cs t (0, 0)) := setRow_heap w g cur cs t (0, 0) hb
theorem setRow_else {w : World} {g k : Nat} (hk : k ≠ g) (cs : Array Value) : (w.setRow g cs).heap[k]? = w.heap[k]? := setRow_other w g k cs hk

section
variable {P : Program} {o : Oper} {a : Act} {w : World}
theorem wp_store_row {K : Act → World → Prop} {Q : Exit → Act → World → Prop} {ty : TypeId} {x y : Operand} (ho : o.op = .store ty x y) (g off : Nat) (t : TypeId) (cur : Array Value) (cs : List Value)
    (hx : a.eval x = .pointer (some ⟨g, off, none⟩)) (hy : (a.eval y).cells = cs.toArray) (hs : ∀ w, (sizeOf ty).run P w = .ok cs.length w) (hb : w.heap[g]? = some (.cells cur t (0, 0)))
    (hfit : off + cs.length ≤ cur.size) (h1 : ∀ v ∈ cs, v.oneCell' = true) (h : K (a.put o.dst undef) (w.setRow g (splice cur off cs))) : o.wp P a w K Q := by
  have hr := run_storeCells_at P g off t cs 0 cur w hb (by omega) h1
  simp only [Nat.add_zero] at hr
  have hsz : (a.eval y).cells.size = cs.length := by rw [hy]; simp
  have hl : (a.eval y).cells.toList = cs := by rw [hy]
  have hh := hs w
  unfold Oper.wp execOp
  rw [show (cur.toList.take off ++ cs ++ cur.toList.drop (off + cs.length)).toArray = splice cur off cs from rfl] at hr
  simp [ho, hx, Instr.storeAt, Instr.sureAddr, storeVar, hsz, hl, hh, hr, Oper.upon]
  exact h
theorem wpList_store_row {ops : Array Oper} {rest : List Oper} {Q : Exit → Act → World → Prop} {ty : TypeId} {x y : Operand} (hgd : o.guard = none) (ho : o.op = .store ty x y) (g off : Nat) (t : TypeId) (cur : Array Value) (cs : List Value)
    (hx : a.eval x = .pointer (some ⟨g, off, none⟩)) (hy : (a.eval y).cells = cs.toArray) (hs : ∀ w, (sizeOf ty).run P w = .ok cs.length w) (hb : w.heap[g]? = some (.cells cur t (0, 0)))
    (hfit : off + cs.length ≤ cur.size) (h1 : ∀ v ∈ cs, v.oneCell' = true) (h : wpList P ops Q rest (a.put o.dst undef) (w.setRow g (splice cur off cs))) : wpList P ops Q (o :: rest) a w :=
  wpList_plain hgd fun _ hK => wp_store_row ho g off t cur cs hx hy hs hb hfit h1 (hK _ _ h)
theorem lexG_store {ops : Array Oper} {B : Nat → Bool} {R : Act → World → Prop} {w0 : World} {i : Nat} {r : List (Nat × RK)} {ty : TypeId} {x y : Operand} (hi : ops[i]? = some o) (hgd : o.guard = none) (hd : o.dst = none) (ho : o.op = .store ty x y) (g off : Nat) (t : TypeId) (cur : Array Value) (cs : List Value)
    (hx : a.eval x = .pointer (some ⟨g, off, none⟩)) (hy : (a.eval y).cells = cs.toArray) (hs : ∀ w, (sizeOf ty).run P w = .ok cs.length w) (hb : w.heap[g]? = some (.cells cur t (0, 0)))
    (hfit : off + cs.length ≤ cur.size) (h1 : ∀ v ∈ cs, v.oneCell' = true) (hB : B i = true)
    (h : ∀ w1, Gr w w1 → w1.heap[g]? = some (.cells cur t (0, 0)) → LexG P ops B w0 R r a (w1.setRow g (splice cur off cs))) : LexG P ops B w0 R ((i, .s) :: r) a w := by
  refine lexG_s hi fun w1 hG K hK => ?_
  have hw : Region.wanted o (yielded ops a.tmps) = true := by simp [Region.wanted, hgd]
  rw [if_pos hw]
  exact wp_store_row ho g off t cur cs hx hy hs (hG.heap hb) hfit h1 (hK _ _ (fun hb => by rw [hB] at hb; cases hb) (by rw [hd]; exact h w1 hG (hG.heap hb)))
end

/-! ### A block that is known whole -/
theorem row_cell {w : World} {g : Nat} {cs : Array Value} {t : TypeId} (h : w.heap[g]? = some (.cells cs t (0, 0))) (i : Nat) {v : Value} (hv : cs[i]? = some v) : w.cell? ⟨g, i, none⟩ = some v := (cell_of_row w g i cs t (0, 0) h).trans hv
theorem row_lt {w : World} {g : Nat} {o : Obj} (h : w.heap[g]? = some o) : g < w.heap.size := by
  rcases Nat.lt_or_ge g w.heap.size with h1 | h1
  · exact h1
  · rw [Array.getElem?_eq_none h1] at h; cases h

end Go.Proofs.Ythhpdlkkmgmdeaa
