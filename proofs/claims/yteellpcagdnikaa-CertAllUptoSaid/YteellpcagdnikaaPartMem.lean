/-
  Parts in memory: the steps of a walk over them. Plain theorems over any program.
-/
import Derived.Test.YteellpcagdnikaaPart
namespace Go.Th
open Go.RowKit
set_option linter.unusedVariables false
section
variable {P : Program} {ops : Array Oper} {rest : List Oper} {o : Oper} {a : Act} {Q : Exit → Act → World → Prop} {w : World}
theorem wpt_load (hw : Region.wanted o (yielded ops a.tmps) = true) (T : TypeId) (x : Operand) (ho : o.op = .load T x) (st : St P T 3) {b j : Nat} {r : Pt} (hx : a.eval x = .pointer (some ⟨b, j, none⟩)) (hc : Hid (∀ i v, r.cs[i]? = some v → w.cell? ⟨b, j + i, none⟩ = some v))
    (h : wpList P ops Q rest (a.put o.dst (.agg #[.int .u32 r.fr, .int .u32 r.to, .slice r.A r.n r.c])) w) : wpList P ops Q (o :: rest) a w :=
  wm_load hw T x ho st hx (Pt.cs_length r) hc.out h
theorem wpt_box (hw : Region.wanted o (yielded ops a.tmps) = true) (T : TypeId) (x : Operand) (ho : o.op = .load T x) (st : St P T 3) {g : Nat} {t : TypeId} {r : Pt} (hx : a.eval x = .pointer (some ⟨g, 0, none⟩)) (hb : Box w g t r.cs.toArray)
    (h : wpList P ops Q rest (a.put o.dst (.agg #[.int .u32 r.fr, .int .u32 r.to, .slice r.A r.n r.c])) w) : wpList P ops Q (o :: rest) a w :=
  wb_load hw T x ho st hx hb rfl h
theorem wpt_store (hw : Region.wanted o (yielded ops a.tmps) = true) (T : TypeId) (x y : Operand) (ho : o.op = .store T x y) (st : St P T 3) {g : Nat} {t : TypeId} {r s : Pt} (hx : a.eval x = .pointer (some ⟨g, 0, none⟩)) (hy : a.eval y = .agg #[.int .u32 s.fr, .int .u32 s.to, .slice s.A s.n s.c])
    (hb : Box w g t r.cs.toArray) (h : ∀ w', Box w' g t s.cs.toArray → w.grownBy w' (some g) → wpList P ops Q rest (a.put o.dst undef) w') : wpList P ops Q (o :: rest) a w :=
  wb_store hw T x y ho st hx hy hb rfl rfl (by simp [Value.oneCell']) h
end
def Pt.zero : Pt := ⟨0, 0, none, 0, 0, []⟩
theorem Box.part {w : World} {g : Nat} {t : TypeId} {r : Pt} (h : Box w g t r.cs.toArray) : w.cell? ⟨g, 0, none⟩ = some (.int .u32 r.fr) ∧ w.cell? ⟨g, 1, none⟩ = some (.int .u32 r.to) ∧ w.cell? ⟨g, 2, none⟩ = some (.slice r.A r.n r.c) :=
  ⟨h.cell 0, h.cell 1, h.cell 2⟩
theorem Box.partC {w : World} {g : Nat} {t : TypeId} {r : Pt} (h : Box w g t r.cs.toArray) : (∀ q : Step w.heap.size w, q.w.cell? ⟨g, 0, none⟩ = some (.int .u32 r.fr)) ∧ (∀ q : Step w.heap.size w, q.w.cell? ⟨g, 1, none⟩ = some (.int .u32 r.to)) ∧ (∀ q : Step w.heap.size w, q.w.cell? ⟨g, 2, none⟩ = some (.slice r.A r.n r.c)) :=
  ⟨fun q => (h.step q.h).part.1, fun q => (h.step q.h).part.2.1, fun q => (h.step q.h).part.2.2⟩
section
variable {P : Program} {ops : Array Oper} {rest : List Oper} {o : Oper} {a : Act} {C : World → Prop} {Q : Act → Prop} {α : Type} {f : α → List Value} {k : Nat}
/-- s[i] in a quiet walk: the place. -/
theorem wqm_at (hf : ∀ x, (f x).length = k) (hw : Region.wanted o (yielded ops a.tmps) = true) (T : TypeId) (s i : Operand) (ho : o.op = .indexAddr T s i) {E bytes : Nat} {z : Value} (el : ElM P T E z bytes k)
    {A : Option Addr} {n c : Nat} {kk : IntKind} {I : Int} (hs : a.eval s = .slice A n c) (hi : a.eval i = .int kk I) (h0 : 0 ≤ I) (h1 : I < n) {w0 : World} (hC0 : C w0)
    {B : Nat} {xs : List α} (hr : ∀ w, C w → RdM f w B A n c xs)
    (h : ∀ (b j : Nat) (x : α), Hid (xs[I.toNat]? = some x) → Hid (∀ w, C w → ∀ i v, (f x)[i]? = some v → w.cell? ⟨b, j + i, none⟩ = some v) → wpQuiet P ops C Q rest (a.put o.dst (.pointer (some ⟨b, j, none⟩)))) :
    wpQuiet P ops C Q (o :: rest) a := by
  have hl : I.toNat < xs.length := by have := (hr w0 hC0).len; omega
  obtain ⟨b, off, hA, hb, hc⟩ := (hr w0 hC0).cells hf (List.getElem?_eq_getElem hl) el.pos
  subst hA
  refine wq_run hw (v := .pointer (some ⟨b, off + I.toNat * k, none⟩)) (fun w hC => ?_) ?_
  · have := run_indexAt (P := P) (w := w) T el.ht (el.size w) ⟨b, off, none⟩ n c kk I h0 h1
    rw [Addr.add_lit] at this
    simp only [execOp, ho, hs, hi, Sem.run_bind, this, Result.andThen, Sem.run_pure]
  · refine h b _ xs[I.toNat] (List.getElem?_eq_getElem hl) fun w hC => ?_
    obtain ⟨b', off', hA', _, hc'⟩ := (hr w hC).cells hf (List.getElem?_eq_getElem hl) el.pos
    injection hA' with hA'
    injection hA' with e1 e2
    subst e1 e2
    exact hc'
theorem wqpt_load (hw : Region.wanted o (yielded ops a.tmps) = true) (T : TypeId) (x : Operand) (ho : o.op = .load T x) (st : St P T 3) {b j : Nat} {r : Pt} (hx : a.eval x = .pointer (some ⟨b, j, none⟩)) (hc : Hid (∀ w, C w → ∀ i v, r.cs[i]? = some v → w.cell? ⟨b, j + i, none⟩ = some v))
    (h : wpQuiet P ops C Q rest (a.put o.dst (.agg #[.int .u32 r.fr, .int .u32 r.to, .slice r.A r.n r.c]))) : wpQuiet P ops C Q (o :: rest) a :=
  wq_run hw (fun w hC => by simp only [execOp, ho, hx, Instr.loadAt, Instr.sureAddr, Sem.run_bind, Sem.run_pure, Result.andThen_ok, run_loadVar_at st (Pt.cs_length r) (hc.out w hC)]; rfl) h
end
/-! ### A row of parts, and their ranks. -/
structure PRd (w : World) (B : Nat) (A : Option Addr) (n c : Nat) (ps : List Pt) : Prop where
  rd : RdM Pt.cs w B A n c ps
  rk : ∀ p ∈ ps, RdS iv w B p.A p.n p.c p.rk
  ok : ∀ p ∈ ps, p.Ok
theorem PRd.step {w w' : World} {B : Nat} {A : Option Addr} {n c : Nat} {ps : List Pt} (h : PRd w B A n c ps) (hb : Below w.heap.size w w') : PRd w' B A n c ps := ⟨h.rd.step hb, fun p hp => (h.rk p hp).step hb, h.ok⟩
theorem PRd.more {w : World} {B B' : Nat} {A : Option Addr} {n c : Nat} {ps : List Pt} (h : PRd w B A n c ps) (hB : B ≤ B') : PRd w B' A n c ps := ⟨h.rd.more hB, fun p hp => (h.rk p hp).more hB, h.ok⟩
end Go.Th
