/-
  A region that draws its order, whose operations read, and whose calls may make memory: one walk, in the text's order. Plain theorems over any program.
-/
import Derived.Test.YteellpcagdnikaaRegion
namespace Go.Th
open Go.RowKit
/-- Whatever is there stays. -/
abbrev Grow (w w' : World) : Prop := Reach w.heap.size w w'
attribute [go_sem] Grow
theorem Grow.refl (w : World) : Grow w w := Reach.refl _ _
theorem Grow.trans (x y z : World) (h : Grow x y) (h2 : Grow y z) : Grow x z := Reach.of (h.below.trans (h2.below.mono h.below.size))
set_option linter.unusedVariables false
section
variable {P : Program} {ops : Array Oper} {rest : List Oper} {o : Oper} {a : Act} {C : World → Prop} {Q : Act → Prop}
theorem wp_region_reach {id : Nat} {Q : Exit → Act → World → Prop} {a : Act} {w : World} {l : List Oper} (hm : P.follows .mixedOrders = true) (hB : Region.lexB .any l.toArray = true)
    (h : wpQuiet P l.toArray (Reach w.heap.size w) (fun a' => ∀ w', Reach w.heap.size w w' → Q .normal a' w') l a) : (Code.region id l.toArray true).wp P Q a w :=
  wp_region_quiet (C := Reach w.heap.size w) hm hB (.of (bdrew1 w)) (by simpa using h)
theorem Calls.reach {w : World} {q : Step w.heap.size w} {f : FuncId} {args : Array Value} {v : Value} (h : Calls P f args q.w fun e w' => e = .returned v ∧ Below q.w.heap.size q.w w') :
    Calls P f args q.w fun e w'' => e = .returned v ∧ ∃ p : Step w.heap.size w, w'' = p.w :=
  h.mono fun e w' ⟨h1, h2⟩ => ⟨h1, ⟨w', q.h.trans (h2.mono q.h.size)⟩, rfl⟩
theorem Calls.reach_same {w : World} {q : Step w.heap.size w} {f : FuncId} {args : Array Value} {v : Value} (h : Calls P f args q.w fun e w' => e = .returned v ∧ q.w = w') :
    Calls P f args q.w fun e w'' => e = .returned v ∧ ∃ p : Step w.heap.size w, w'' = p.w :=
  h.mono fun e w' ⟨h1, h2⟩ => ⟨h1, q, h2.symm⟩
theorem RdS.reach {α : Type} {f : α → Value} {w : World} {B : Nat} {A : Option Addr} {n c : Nat} {xs : List α} (h : RdS f w B A n c xs) : RdC f (Reach w.heap.size w) B A n c xs := ⟨fun _ hw => h.step hw.below⟩
end
section
variable {P : Program} {ops : Array Oper} {C : World → Prop} {Q : Act → Prop} {rest : List Oper} {o : Oper} {a : Act}
theorem wq_cut_hm (hw : Region.wanted o (yielded ops a.tmps) = true) (T : TypeId) (s : Operand) {E bytes : Nat} {z : Value} (el : El P T E z bytes)
    {α : Type} {f : α → Value} {A : Option Addr} {n c : Nat} (hs : a.eval s = .slice A n c) {B : Nat} {xs : List α} (hr : RdC f C B A n c xs) {w0 : World} (hC0 : C w0)
    (hi mx : Operand) (ho : o.op = .slice T s Option.none (some hi) (some mx)) {k k' : IntKind} {I J : Int} (hhi : a.eval hi = .int k I) (hmx : a.eval mx = .int k' J) (H : Nat) (hH : I = (H : Int) ∧ J = (H : Int) ∧ H ≤ n)
    (h : ∀ A', RdC f C B A' H H (xs.take H) → wpQuiet P ops C Q rest (a.put o.dst (.slice A' H H))) : wpQuiet P ops C Q (o :: rest) a := by
  obtain ⟨rfl, rfl, hH⟩ := hH
  have hc := (hr.rd w0 hC0).cap
  refine wq_cutS hw T s _ _ _ ho el hs (L := 0) (H := H) (M := H) (fun w => ?_) hr (Nat.zero_le _) (Nat.le_refl _) hH fun A' hA => h A' hA
  simp only [Option.map_some, Option.map_none, hhi, hmx]
  exact bounds_hm k k' (Nat.le_refl _) (by omega)
theorem onq_sl (s : Operand) {d T lo hi mx ty pos af g} (h : wpQuiet P ops C Q (⟨d, .slice T s lo hi mx, ty, pos, af, g⟩ :: rest) a) : wpQuiet P ops C Q (⟨d, .slice T s lo hi mx, ty, pos, af, g⟩ :: rest) a := h
theorem onq_cv (x : Operand) {d src dst ty pos af g} (h : wpQuiet P ops C Q (⟨d, .convert src dst x, ty, pos, af, g⟩ :: rest) a) : wpQuiet P ops C Q (⟨d, .convert src dst x, ty, pos, af, g⟩ :: rest) a := h
theorem onq_ix (s : Operand) {d T i ty pos af g} (h : wpQuiet P ops C Q (⟨d, .indexAddr T s i, ty, pos, af, g⟩ :: rest) a) : wpQuiet P ops C Q (⟨d, .indexAddr T s i, ty, pos, af, g⟩ :: rest) a := h
end
section
variable {P : Program} {ops : Array Oper} {rest : List Oper} {o : Oper} {a : Act} {Q : Exit → Act → World → Prop} {w : World}
/-- s[:h], the place told. -/
theorem wl_cut_hx (hw : Region.wanted o (yielded ops a.tmps) = true) (T : TypeId) (s : Operand) {E bytes : Nat} {z : Value} (el : El P T E z bytes)
    {A : Option Addr} {n c : Nat} (hs : a.eval s = .slice A n c) (hi : Operand) (ho : o.op = .slice T s Option.none (some hi) Option.none) {k : IntKind} {I : Int} (hhi : a.eval hi = .int k I) (H : Nat) (hH : I = (H : Int) ∧ H ≤ n) (hc : n ≤ c)
    (h : wpList P ops Q rest (a.put o.dst (.slice (cutA A 0 c) H c)) w) : wpList P ops Q (o :: rest) a w := by
  obtain ⟨rfl, hH⟩ := hH
  refine wl_run hw (v := .slice (cutA A 0 c) (H - 0) (c - 0)) (w' := w) ?_ h
  have hb : (Instr.sliceBounds true n c Option.none (some (.int k (H : Int))) Option.none).run P w = .ok (0, H, c) w := bounds_h k (by omega)
  simp only [execOp, ho, hs, hhi, Option.map_some, Option.map_none, Sem.run_bind, Instr.sliceAt, run_underlying el.ht, Instr.slice, hb, el.size, Result.andThen, Sem.run_pure, Nat.mul_one, cutA]
end
section
variable {P : Program} {ops : Array Oper} {rest : List Oper} {o : Oper} {a : Act} {Q : Exit → Act → World → Prop} {w : World}
/-- &s[i] of a row of the call's own, of one-cell elements. -/
theorem wl_placeS (hw : Region.wanted o (yielded ops a.tmps) = true) (T : TypeId) (s i : Operand) (ho : o.op = .indexAddr T s i) {E bytes : Nat} {z : Value} (el : El P T E z bytes)
    {g n c : Nat} {kk : IntKind} {I : Int} (hs : a.eval s = .slice (some ⟨g, 0, none⟩) n c) (hi : a.eval i = .int kk I) (j : Nat) (hj : I = (j : Int) ∧ j < n)
    (h : wpList P ops Q rest (a.put o.dst (.pointer (some ⟨g, j, none⟩))) w) : wpList P ops Q (o :: rest) a w := by
  obtain ⟨rfl, hj⟩ := hj
  exact wl_index_own hw T s i ho el.ht el.size hs hi (by omega) (by omega) (by rw [Int.toNat_natCast, Nat.mul_one]; exact h)
end
end Go.Th
