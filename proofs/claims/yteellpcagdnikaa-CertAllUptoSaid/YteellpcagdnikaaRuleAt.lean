/-
  Rules in memory: the steps of a walk over them. Plain theorems over any program.
-/
import Derived.Test.YteellpcagdnikaaRuleMem
import Derived.Test.YteellpcagdnikaaMany
import Derived.Test.YteellpcagdnikaaRegion
import Derived.Test.YteellpcagdnikaaReach
namespace Go.Th
open Go.RowKit
set_option linter.unusedVariables false
theorem Ru.one (r : Ru) : ∀ u ∈ r.cs, u.oneCell' = true := by
  intro u hu
  simp only [Ru.cs, List.mem_cons, List.not_mem_nil, or_false] at hu
  rcases hu with rfl | rfl | rfl | rfl <;> rfl
section
variable {P : Program} {ops : Array Oper} {rest : List Oper} {o : Oper} {a : Act} {Q : Exit → Act → World → Prop} {w : World}
/-- A rule is read. -/
theorem wr_load (hw : Region.wanted o (yielded ops a.tmps) = true) (T : TypeId) (x : Operand) (ho : o.op = .load T x) (st : St P T 4) {b j : Nat} {r : Ru} (hx : a.eval x = .pointer (some ⟨b, j, none⟩)) (hc : Hid (∀ i v, r.cs[i]? = some v → w.cell? ⟨b, j + i, none⟩ = some v))
    (h : wpList P ops Q rest (a.put o.dst (.agg #[.int .u32 r.a, .int .i64 r.n, .int .i64 r.act, .int .i64 r.next])) w) : wpList P ops Q (o :: rest) a w :=
  wm_load hw T x ho st hx (Ru.cs_length r) hc.out h
/-- A variable that holds a rule is read. -/
theorem wr_box (hw : Region.wanted o (yielded ops a.tmps) = true) (T : TypeId) (x : Operand) (ho : o.op = .load T x) (st : St P T 4) {g : Nat} {t : TypeId} {r : Ru} (hx : a.eval x = .pointer (some ⟨g, 0, none⟩)) (hb : Box w g t r.cs.toArray)
    (h : wpList P ops Q rest (a.put o.dst (.agg #[.int .u32 r.a, .int .i64 r.n, .int .i64 r.act, .int .i64 r.next])) w) : wpList P ops Q (o :: rest) a w :=
  wb_load hw T x ho st hx hb rfl h
/-- It is set. -/
theorem wr_store (hw : Region.wanted o (yielded ops a.tmps) = true) (T : TypeId) (x y : Operand) (ho : o.op = .store T x y) (st : St P T 4) {g : Nat} {t : TypeId} {r s : Ru} (hx : a.eval x = .pointer (some ⟨g, 0, none⟩)) (hy : a.eval y = .agg #[.int .u32 s.a, .int .i64 s.n, .int .i64 s.act, .int .i64 s.next])
    (hb : Box w g t r.cs.toArray) (h : ∀ w', Box w' g t s.cs.toArray → w.grownBy w' (some g) → wpList P ops Q rest (a.put o.dst undef) w') : wpList P ops Q (o :: rest) a w :=
  wb_store hw T x y ho st hx hy hb rfl rfl (by simp [Value.oneCell']) h
end
theorem Box.rule {w : World} {g : Nat} {t : TypeId} {r : Ru} (h : Box w g t r.cs.toArray) : w.cell? ⟨g, 0, none⟩ = some (.int .u32 r.a) ∧ w.cell? ⟨g, 1, none⟩ = some (.int .i64 r.n) ∧ w.cell? ⟨g, 2, none⟩ = some (.int .i64 r.act) ∧ w.cell? ⟨g, 3, none⟩ = some (.int .i64 r.next) :=
  ⟨h.cell 0, h.cell 1, h.cell 2, h.cell 3⟩
/-! ### A region that draws its order, whose operations read, and whose calls may make memory: one walk, in the text's order. -/
section
variable {P : Program} {ops : Array Oper} {rest : List Oper} {o : Oper} {a : Act} {C : World → Prop} {Q : Act → Prop}
/-- s[i] of a row of rules: the place. -/
theorem wqr_at (hw : Region.wanted o (yielded ops a.tmps) = true) (T : TypeId) (s i : Operand) (ho : o.op = .indexAddr T s i) {E bytes : Nat} {z : Value} (el : ElM P T E z bytes 4)
    {A : Option Addr} {n c : Nat} {k : IntKind} {I : Int} (hs : a.eval s = .slice A n c) (hi : a.eval i = .int k I) (h0 : 0 ≤ I) (h1 : I < n) {w0 : World} (hC0 : C w0)
    {B : Nat} {xs : List Ru} (hr : ∀ w, C w → RdM Ru.cs w B A n c xs)
    (h : ∀ (b j : Nat) (x : Ru), Hid (xs[I.toNat]? = some x) → Hid (∀ w, C w → ∀ i v, x.cs[i]? = some v → w.cell? ⟨b, j + i, none⟩ = some v) → wpQuiet P ops C Q rest (a.put o.dst (.pointer (some ⟨b, j, none⟩)))) :
    wpQuiet P ops C Q (o :: rest) a := by
  have hl : I.toNat < xs.length := by have := (hr w0 hC0).len; omega
  obtain ⟨b, off, hA, hb, hc⟩ := (hr w0 hC0).cells Ru.cs_length (List.getElem?_eq_getElem hl) (by omega)
  subst hA
  refine wq_run hw (v := .pointer (some ⟨b, off + I.toNat * 4, none⟩)) (fun w hC => ?_) ?_
  · have := run_indexAt (P := P) (w := w) T el.ht (el.size w) ⟨b, off, none⟩ n c k I h0 h1
    rw [Addr.add_lit] at this
    simp only [execOp, ho, hs, hi, Sem.run_bind, this, Result.andThen, Sem.run_pure]
  · refine h b _ xs[I.toNat] (List.getElem?_eq_getElem hl) fun w hC => ?_
    obtain ⟨b', off', hA', _, hc'⟩ := (hr w hC).cells Ru.cs_length (List.getElem?_eq_getElem hl) (by omega)
    injection hA' with hA'
    injection hA' with e1 e2
    subst e1 e2
    exact hc'
theorem wqr_load (hw : Region.wanted o (yielded ops a.tmps) = true) (T : TypeId) (x : Operand) (ho : o.op = .load T x) (st : St P T 4) {b j : Nat} {r : Ru} (hx : a.eval x = .pointer (some ⟨b, j, none⟩)) (hc : Hid (∀ w, C w → ∀ i v, r.cs[i]? = some v → w.cell? ⟨b, j + i, none⟩ = some v))
    (h : wpQuiet P ops C Q rest (a.put o.dst (.agg #[.int .u32 r.a, .int .i64 r.n, .int .i64 r.act, .int .i64 r.next]))) : wpQuiet P ops C Q (o :: rest) a :=
  wq_run hw (fun w hC => by simp only [execOp, ho, hx, Instr.loadAt, Instr.sureAddr, Sem.run_bind, Sem.run_pure, Result.andThen_ok, run_loadVar_at st (Ru.cs_length r) (hc.out w hC)]; rfl) h
theorem wqr_box (hw : Region.wanted o (yielded ops a.tmps) = true) (T : TypeId) (x : Operand) (ho : o.op = .load T x) (st : St P T 4) {g : Nat} {t : TypeId} {r : Ru} (hx : a.eval x = .pointer (some ⟨g, 0, none⟩)) (hb : ∀ w, C w → Box w g t r.cs.toArray)
    (h : wpQuiet P ops C Q rest (a.put o.dst (.agg #[.int .u32 r.a, .int .i64 r.n, .int .i64 r.act, .int .i64 r.next]))) : wpQuiet P ops C Q (o :: rest) a := by
  obtain ⟨fs, hu⟩ := st.under
  exact wq_run hw (fun w hC => by simp only [execOp, ho, hx, Instr.loadAt, Instr.sureAddr, Sem.run_bind, Sem.run_pure, Result.andThen_ok, run_loadVar_row w g t T r.cs.toArray (0, 0) _ (hb w hC).at_ hu rfl st.size]; rfl) h
theorem RdM.reach {α : Type} {f : α → List Value} {w : World} {B : Nat} {A : Option Addr} {n c : Nat} {xs : List α} (h : RdM f w B A n c xs) : ∀ w', Reach w.heap.size w w' → RdM f w' B A n c xs := fun _ hw => h.step hw.below
theorem Box.reach {w : World} {g : Nat} {t : TypeId} {cs : Array Value} (h : Box w g t cs) : ∀ w', Reach w.heap.size w w' → Box w' g t cs := fun _ hw => h.step hw.below
theorem Box.reachC {w : World} {g : Nat} {t : TypeId} {r : Ru} (h : Box w g t r.cs.toArray) : (∀ q : Step w.heap.size w, q.w.cell? ⟨g, 0, none⟩ = some (.int .u32 r.a)) ∧ (∀ q : Step w.heap.size w, q.w.cell? ⟨g, 1, none⟩ = some (.int .i64 r.n)) ∧ (∀ q : Step w.heap.size w, q.w.cell? ⟨g, 2, none⟩ = some (.int .i64 r.act)) ∧ (∀ q : Step w.heap.size w, q.w.cell? ⟨g, 3, none⟩ = some (.int .i64 r.next)) :=
  ⟨fun q => (h.step q.h).rule.1, fun q => (h.step q.h).rule.2.1, fun q => (h.step q.h).rule.2.2.1, fun q => (h.step q.h).rule.2.2.2⟩
end
section
variable {P : Program} {ops : Array Oper} {rest : List Oper} {o : Oper} {a : Act} {C : World → Prop} {Q : Act → Prop} {α : Type} {f : α → List Value} {k : Nat}
theorem wqm_cutS (hf : ∀ x, (f x).length = k) (hw : Region.wanted o (yielded ops a.tmps) = true) (T : TypeId) (s : Operand) (lo hi mx : Option Operand) (ho : o.op = .slice T s lo hi mx) {E bytes : Nat} {z : Value} (el : ElM P T E z bytes k)
    {A : Option Addr} {n c : Nat} (hs : a.eval s = .slice A n c) {L H M : Nat}
    (hb : ∀ w, (Instr.sliceBounds true n c (lo.map a.eval) (hi.map a.eval) (mx.map a.eval)).run P w = .ok (L, H, M) w)
    {B : Nat} {xs : List α} (hr : ∀ w, C w → RdM f w B A n c xs) (hLH : L ≤ H) (hHM : H ≤ M) (hHn : H ≤ n)
    (h : ∀ A', (∀ w, C w → RdM f w B A' (H - L) (M - L) ((xs.take H).drop L)) → wpQuiet P ops C Q rest (a.put o.dst (.slice A' (H - L) (M - L)))) :
    wpQuiet P ops C Q (o :: rest) a := by
  refine wq_run hw (v := .slice (if M = L then A else A.map (·.add (L * k))) (H - L) (M - L)) (fun w hC => ?_) (h _ fun w hC => (hr w hC).cut hf L H M hLH hHM hHn el.pos)
  simp only [execOp, ho, hs, Sem.run_bind, Instr.sliceAt, run_underlying el.ht, Instr.slice, hb w, el.size, Result.andThen, Sem.run_pure]
section
variable (hf : ∀ x, (f x).length = k) (hw : Region.wanted o (yielded ops a.tmps) = true) (T : TypeId) (s : Operand) {E bytes : Nat} {z : Value} (el : ElM P T E z bytes k)
    {A : Option Addr} {n c : Nat} (hs : a.eval s = .slice A n c) {B : Nat} {xs : List α} (hr : ∀ w, C w → RdM f w B A n c xs) {w0 : World} (hC0 : C w0)
include hf hw el hs hr hC0
theorem wqm_cut_l (lo : Operand) (ho : o.op = .slice T s (some lo) Option.none Option.none) {kk : IntKind} {I : Int} (hlo : a.eval lo = .int kk I) (L : Nat) (hL : I = (L : Int) ∧ L ≤ n)
    (h : ∀ A', (∀ w, C w → RdM f w B A' (n - L) (c - L) (xs.drop L)) → wpQuiet P ops C Q rest (a.put o.dst (.slice A' (n - L) (c - L)))) : wpQuiet P ops C Q (o :: rest) a := by
  obtain ⟨rfl, hL⟩ := hL
  refine wqm_cutS hf hw T s _ _ _ ho el hs (L := L) (H := n) (M := c) (fun w => ?_) hr hL (hr w0 hC0).cap (Nat.le_refl _) fun A' hA => h A' ?_
  · simp only [Option.map_some, Option.map_none, hlo]
    exact bounds_l kk hL
  · rw [List.take_of_length_le (Nat.le_of_eq (hr w0 hC0).len)] at hA
    exact hA
theorem wqm_cut_h (hi : Operand) (ho : o.op = .slice T s Option.none (some hi) Option.none) {kk : IntKind} {I : Int} (hhi : a.eval hi = .int kk I) (H : Nat) (hH : I = (H : Int) ∧ H ≤ n)
    (h : ∀ A', (∀ w, C w → RdM f w B A' H c (xs.take H)) → wpQuiet P ops C Q rest (a.put o.dst (.slice A' H c))) : wpQuiet P ops C Q (o :: rest) a := by
  obtain ⟨rfl, hH⟩ := hH
  have hc := (hr w0 hC0).cap
  refine wqm_cutS hf hw T s _ _ _ ho el hs (L := 0) (H := H) (M := c) (fun w => ?_) hr (Nat.zero_le _) (by omega) hH fun A' hA => h A' hA
  simp only [Option.map_some, Option.map_none, hhi]
  exact bounds_h kk (by omega)
end
end
end Go.Th
