/-
  Slice literals of the call's own, whatever they hold; rows that are read, one behind the other.
-/
import Derived.Test.YtjambnlocjjjpaaCfBackLaw
import Derived.Great.FillDense
namespace Go.Th
open Go.RowKit
set_option linter.unusedSimpArgs false
section
variable {P : Program} {ops : Array Oper} {rest : List Oper} {o : Oper} {a : Act} {Q : Exit → Act → World → Prop} {w : World}
theorem wl_lit (hw : Region.wanted o (yielded ops a.tmps) = true) (T : TypeId) (n : Nat) (parts : Array (Nat × Operand)) (ho : o.op = .buildSlice T n parts) {E bytes : Nat} {z : Value} (el : El P T E z bytes) {α : Type} {f : α → Value} (hf : ∀ x, (f x).cells = #[f x]) (xs : List α) (hx : xs.length = n) (hn : 0 < n) (hs : n ≤ 16777216) {base : Nat} (hb : base ≤ w.heap.size)
    (hv : parts.toList.map (fun p => (p.1, a.eval p.2)) = ((xs.map f).zipIdx 0).map fun x => (x.2, x.1))
    (h : ∀ g w', w.heap.size ≤ g → g < w'.heap.size → OwS f w' base E (some ⟨g, 0, none⟩) n n xs → Below w.heap.size w w' → wpList P ops Q rest (a.put o.dst (.slice (some ⟨g, 0, none⟩) n n)) w') : wpList P ops Q (o :: rest) a w := by
  obtain ⟨i, hi, hz, hk, hby⟩ := el.info
  refine wl_run hw (v := .slice (some ⟨w.heap.size, 0, none⟩) n n) ?_ (h _ (w.alloc (.cells (xs.map f).toArray E)) (Nat.le_refl _) (by simp) (OwS.lit w _ n hb (by simp only [maxLen]; omega) hx rfl) (below_alloc w (Nat.le_refl _) _))
  have hv' : (Array.map (fun p => (p.1, a.eval p.2)) parts).toList = ((xs.map f).zipIdx 0).map fun x => (x.2, x.1) := by rw [Array.toList_map]; exact hv
  simp only [execOp, ho, Sem.run_bind, run_buildSlice w T E n _ _ i z el.ht hi hz (by rw [hk]; omega) (by rw [hk]; omega) (by rw [hk, hv']; exact Go.Great.fill_flat (xs.map f) _ (fun v hm => by obtain ⟨x, _, rfl⟩ := List.mem_map.1 hm; exact hf x) (by simp [hx])), Result.andThen_ok, Sem.run_pure]
theorem wl_lit0 (hw : Region.wanted o (yielded ops a.tmps) = true) (T : TypeId) (ho : o.op = .buildSlice T 0 #[]) {E bytes : Nat} {z : Value} (el : El P T E z bytes) {α : Type} (f : α → Value) {base : Nat} (hb : base ≤ w.heap.size)
    (h : ∀ g w', w.heap.size ≤ g → g < w'.heap.size → OwS f w' base E (some ⟨g, 0, none⟩) 0 0 [] → Below w.heap.size w w' → wpList P ops Q rest (a.put o.dst (.slice (some ⟨g, 0, none⟩) 0 0)) w') : wpList P ops Q (o :: rest) a w := by
  obtain ⟨i, hi, hz, hk, hby⟩ := el.info
  refine wl_run hw (v := .slice (some ⟨w.heap.size, 0, none⟩) 0 0) ?_ (h _ (w.alloc (.cells #[] E)) (Nat.le_refl _) (by simp) (OwS.lit w _ 0 hb (by simp [maxLen]) rfl rfl) (below_alloc w (Nat.le_refl _) _))
  have e : ∀ z' : Value, (Array.range 0).map (fun _ => z') = #[] := fun z' => Array.eq_empty_of_size_eq_zero (by simp)
  simp [execOp, ho, Instr.buildSlice, run_underlying el.ht, sizeOf, typeInfo, zeroValue, hi, hz, newRow, Instr.fill, e]
end
theorem bv_cells (x : UInt8) : (bv x).cells = #[bv x] := rfl
theorem iv_cells (x : Int) : (iv x).cells = #[iv x] := rfl
/-- Rows of bytes that can be read. -/
def Rws (w : World) (l : List (Option Addr × Nat × Nat × List UInt8)) : Prop := ∀ x ∈ l, RdS bv w w.heap.size x.1 x.2.1 x.2.2.1 x.2.2.2
theorem Rws.nil (w : World) : Rws w [] := by intro x hx; cases hx
theorem Rws.step {w w' : World} {l : List (Option Addr × Nat × Nat × List UInt8)} (h : Rws w l) (hb : Below w.heap.size w w') : Rws w' l := fun x hx => ((h x hx).step hb).heap
theorem Rws.cons {w : World} {l : List (Option Addr × Nat × Nat × List UInt8)} (h : Rws w l) {A : Option Addr} {n c B : Nat} {bs : List UInt8} (hr : RdS bv w B A n c bs) : Rws w ((A, n, c, bs) :: l) := fun x hx => by
  rcases List.mem_cons.1 hx with rfl | hx
  · exact hr.heap
  · exact h x hx
theorem Rws.get {w : World} {l : List (Option Addr × Nat × Nat × List UInt8)} (h : Rws w l) {A : Option Addr} {n c : Nat} {bs : List UInt8} (hx : (A, n, c, bs) ∈ l) : RdS bv w w.heap.size A n c bs := h _ hx
end Go.Th
