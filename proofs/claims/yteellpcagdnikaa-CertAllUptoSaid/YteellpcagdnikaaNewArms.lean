/-
  What a region makes, behind a name: a variable, a slice literal; a place in a row of the call's own in a quiet walk. Plain theorems over any program.
-/
import Derived.Test.YteellpcagdnikaaStore
import Derived.Great.BuildSlice
namespace Go.Th
open Go.RowKit
set_option linter.unusedVariables false
section
variable {P : Program} {ops : Array Oper} {rest : List Oper} {o : Oper} {a : Act} {Q : Exit → Act → World → Prop} {w : World}
/-- A variable is made; where it lies is a name. -/
theorem wl_newBox (hw : Region.wanted o (yielded ops a.tmps) = true) (T : TypeId) (ho : o.op = .alloc T) {cs : Array Value} {k : Nat} (hz : (P.info? T).map (fun i => (i.zero.map Value.cells, i.size)) = some (some cs, k))
    (h : ∀ g w', w.heap.size ≤ g → g < w'.heap.size → Box w' g T cs → Below w.heap.size w w' → wpList P ops Q rest (a.put o.dst (.pointer (some ⟨g, 0, none⟩))) w') : wpList P ops Q (o :: rest) a w := by
  cases hi : P.info? T with
  | none => rw [hi] at hz; simp at hz
  | some i =>
    rw [hi] at hz
    simp only [Option.map_some, Option.some.injEq, Prod.mk.injEq, Option.map_eq_some_iff] at hz
    obtain ⟨⟨z, hz1, hz2⟩, _⟩ := hz
    refine wl_run hw (v := .pointer (some ⟨w.heap.size, 0, none⟩)) ?_ (h _ (w.alloc (.cells cs T)) (Nat.le_refl _) (by simp) (Box.new w cs T) (below_alloc w (Nat.le_refl _) _))
    simp [execOp, ho, Instr.alloc, zeroValue, typeInfo, hi, hz1, newVar, newRow, hz2]
/-- A slice literal is made. -/
theorem wl_sliceM (hw : Region.wanted o (yielded ops a.tmps) = true) (T : TypeId) (n : Nat) (parts : Array (Nat × Operand)) (ho : o.op = .buildSlice T n parts) {E bytes k : Nat} {z : Value} (el : ElM P T E z bytes k) {α : Type} {f : α → List Value} (hf : ∀ x, (f x).length = k) {base : Nat} (xs : List α) (hx : xs.length = n)
    (hs : n * k ≤ 16777216) (hn : 0 < n) (hb : base ≤ w.heap.size)
    {vs : List (Nat × Value)} (hv : parts.toList.map (fun (i, x) => (i, a.eval x)) = vs) (hc : Instr.fill (fun i => some (i * k, k)) ((Array.range (n * k)).map (z.cells[· % z.cells.size]!)) vs = some (xs.flatMap f).toArray)
    (h : ∀ g w', w.heap.size ≤ g → g < w'.heap.size → OwM f k w' base E (some ⟨g, 0, none⟩) n n xs → Below w.heap.size w w' → wpList P ops Q rest (a.put o.dst (.slice (some ⟨g, 0, none⟩) n n)) w') : wpList P ops Q (o :: rest) a w := by
  obtain ⟨i, hi, hz, hk, hby⟩ := el.info
  have hpos : 0 < n * k := Nat.mul_pos hn el.pos
  refine wl_run hw (v := .slice (some ⟨w.heap.size, 0, none⟩) n n) ?_ (h _ (w.alloc (.cells (xs.flatMap f).toArray E)) (Nat.le_refl _) (by simp) (OwM.lit hf w _ n hb (by simp only [maxLen]; have := Nat.le_mul_of_pos_right n el.pos; omega) hx rfl) (below_alloc w (Nat.le_refl _) _))
  simp only [execOp, ho, Sem.run_bind, run_buildSlice w T E n _ _ i z el.ht hi hz (by rw [hk]; omega) (by rw [hk]; omega) (by rw [hk, Array.toList_map]; exact hv ▸ hc), Result.andThen_ok, Sem.run_pure]
theorem on_makeL (l : Operand) {d t c ty pos af g} (h : wpList P ops Q (⟨d, .makeSlice t l c, ty, pos, af, g⟩ :: rest) a w) : wpList P ops Q (⟨d, .makeSlice t l c, ty, pos, af, g⟩ :: rest) a w := h
theorem on_alloc {T : TypeId} {d ty pos af g} (h : wpList P ops Q (⟨d, .alloc T, ty, pos, af, g⟩ :: rest) a w) : wpList P ops Q (⟨d, .alloc T, ty, pos, af, g⟩ :: rest) a w := h
theorem on_sliceLit {T : TypeId} {n : Nat} {ps d ty pos af g} (h : wpList P ops Q (⟨d, .buildSlice T n ps, ty, pos, af, g⟩ :: rest) a w) : wpList P ops Q (⟨d, .buildSlice T n ps, ty, pos, af, g⟩ :: rest) a w := h
theorem OwS.lt {α : Type} {f : α → Value} {base e n c g : Nat} {w : World} {xs : List α} (h : OwS f w base e (some ⟨g, 0, none⟩) n c xs) : base ≤ g ∧ g < w.heap.size := by
  rcases h.ow.form with ⟨e, _⟩ | ⟨g', e, hb, hl⟩
  · cases e
  · injection e with e; injection e with e; subst e; exact ⟨hb, hl⟩
theorem OwM.lt {α : Type} {f : α → List Value} {k base e n c g : Nat} {w : World} {xs : List α} (h : OwM f k w base e (some ⟨g, 0, none⟩) n c xs) : base ≤ g ∧ g < w.heap.size := by
  rcases h.ow.form with ⟨e, _⟩ | ⟨g', e, hb, hl⟩
  · cases e
  · injection e with e; injection e with e; subst e; exact ⟨hb, hl⟩
end
section
variable {P : Program} {ops : Array Oper} {rest : List Oper} {o : Oper} {a : Act} {C : World → Prop} {Q : Act → Prop}
/-- &s[i] of a row of the call's own, in a quiet walk. -/
theorem wqm_place (hw : Region.wanted o (yielded ops a.tmps) = true) (T : TypeId) (s i : Operand) (ho : o.op = .indexAddr T s i) {E bytes k : Nat} {z : Value} (el : ElM P T E z bytes k)
    {g n c : Nat} {kk : IntKind} {I : Int} (hs : a.eval s = .slice (some ⟨g, 0, none⟩) n c) (hi : a.eval i = .int kk I) (j : Nat) (hj : I = (j : Int) ∧ j < n)
    (h : wpQuiet P ops C Q rest (a.put o.dst (.pointer (some ⟨g, j * k, none⟩)))) : wpQuiet P ops C Q (o :: rest) a := by
  obtain ⟨rfl, hj⟩ := hj
  refine wq_run hw (v := .pointer (some ⟨g, j * k, none⟩)) (fun w hC => ?_) h
  have := run_indexAt (P := P) (w := w) T el.ht (el.size w) ⟨g, 0, none⟩ n c kk (j : Int) (by omega) (by omega)
  rw [Addr.add_lit, Nat.zero_add, Int.toNat_natCast] at this
  simp only [execOp, ho, hs, hi, Sem.run_bind, this, Result.andThen, Sem.run_pure]
end
/-! ### The class: worlds in which one block is as it was. -/
structure KStep (g : Nat) (w0 : World) where
  w : World
  h : w.heap[g]? = w0.heap[g]?
instance (g : Nat) (w : World) : Nonempty (KStep g w) := ⟨⟨w, rfl⟩⟩
def KReach (g : Nat) (w w' : World) : Prop := ∃ p : KStep g w, w' = p.w
theorem KReach.of {g : Nat} {w w' : World} (h : w'.heap[g]? = w.heap[g]?) : KReach g w w' := ⟨⟨w', h⟩, rfl⟩
theorem KReach.refl (g : Nat) (w : World) : KReach g w w := .of rfl
theorem KReach.trans (g : Nat) (x y z : World) (h1 : KReach g x y) (h2 : KReach g y z) : KReach g x z := by
  obtain ⟨p, rfl⟩ := h1
  obtain ⟨q, rfl⟩ := h2
  exact .of (q.h.trans p.h)
attribute [go_sem] KReach
theorem keep_alloc {g : Nat} (w : World) (o : Obj) (h : g < w.heap.size) : (w.alloc o).heap[g]? = w.heap[g]? := (below_alloc w (Nat.le_refl _) o).block g h
theorem keep_grown {g : Nat} {w w' : World} {row : Option Nat} (h : w.grownBy w' row) (hl : g < w.heap.size) (hne : row ≠ some g) : w'.heap[g]? = w.heap[g]? := h.block g hl (fun e => hne e.symm)
theorem Box.keep {w : World} {g : Nat} {t : TypeId} {cs : Array Value} (h : Box w g t cs) (q : KStep g w) : Box q.w g t cs := ⟨q.h.trans h.at_⟩
end Go.Th
