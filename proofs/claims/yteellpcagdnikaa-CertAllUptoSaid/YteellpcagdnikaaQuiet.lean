/-
  Regions that draw their order and whose operations only read: steps of the walk in the text's order. Plain theorems over any program.
-/
import Derived.Test.YteellpcagdnikaaBase
namespace Go.Th
open Go.RowKit

/-- What reads so in every world of a class. -/
structure RdC {α : Type} (f : α → Value) (C : World → Prop) (B : Nat) (A : Option Addr) (n c : Nat) (xs : List α) : Prop where
  rd : ∀ w, C w → RdS f w B A n c xs
theorem RdC.of_drew {α : Type} {f : α → Value} {w : World} {B : Nat} {A : Option Addr} {n c : Nat} {xs : List α} (h : RdS f w B A n c xs) : RdC f (fun w' => ∃ n, w' = w.drewN n) B A n c xs :=
  ⟨fun w' hw => by
    obtain ⟨k, rfl⟩ := hw
    exact h.drewN k⟩
/-- The address of a cut. -/
def cutA (A : Option Addr) (L M : Nat) : Option Addr := if M = L then A else A.map (·.add L)
theorem RdS.cut {α : Type} {f : α → Value} {w : World} {B : Nat} {A : Option Addr} {n c : Nat} {xs : List α} (h : RdS f w B A n c xs) (L H M : Nat) (hLH : L ≤ H) (hHM : H ≤ M) (hHn : H ≤ n) :
    RdS f w B (cutA A L M) (H - L) (M - L) ((xs.take H).drop L) := by
  refine ⟨?_, by rw [List.length_drop, List.length_take, h.len]; omega, by omega⟩
  have := (h.rd.take H).drop L M (fun e => by rw [List.length_take, List.length_map, h.len]; omega)
  rw [← List.map_take, ← List.map_drop] at this
  exact this
section
variable {P : Program} {ops : Array Oper} {rest : List Oper} {o : Oper} {a : Act} {C : World → Prop} {Q : Act → Prop}
theorem wq_run {v : Value} (hw : Region.wanted o (yielded ops a.tmps) = true) (hr : ∀ w, C w → (execOp a.eval o).run P w = .ok (.value v) w) (h : wpQuiet P ops C Q rest (a.put o.dst v)) : wpQuiet P ops C Q (o :: rest) a := by
  refine wpQuiet_step fun K hK => ?_
  rw [if_pos hw]
  refine ⟨v, fun w hC => ?_, hK _ h⟩
  unfold Oper.quietAt
  rw [hr w hC]
  exact ⟨rfl, rfl⟩
/-- string(s) -/
theorem wq_strS (hw : Region.wanted o (yielded ops a.tmps) = true) (src dst : TypeId) (x : Operand) (ho : o.op = .convert src dst x) {E bytes : Nat} {z : Value} (el : El P src E z bytes) (he : P.underlying E = some (.int .u8)) (hd : P.underlying dst = some .string)
    {A : Option Addr} {n c B : Nat} (hx : a.eval x = .slice A n c) {bs : List UInt8} (hr : RdC bv C B A n c bs)
    (h : wpQuiet P ops C Q rest (a.put o.dst (.string ⟨bs.toArray⟩))) : wpQuiet P ops C Q (o :: rest) a :=
  wq_run hw (fun w hC => by simp only [execOp, ho, hx, Sem.run_bind, run_str el.ht he hd (hr.rd w hC).len (hr.rd w hC).rd, Result.andThen, Sem.run_pure]) h
/-- s[i] of a slice of bytes: the place. -/
theorem wq_at_b (hw : Region.wanted o (yielded ops a.tmps) = true) (T : TypeId) (s i : Operand) (ho : o.op = .indexAddr T s i) {E bytes : Nat} {z : Value} (el : El P T E z bytes)
    {A : Option Addr} {n c : Nat} {k : IntKind} {I : Int} (hs : a.eval s = .slice A n c) (hi : a.eval i = .int k I) (h0 : 0 ≤ I) (h1 : I < n) {w0 : World} (hC0 : C w0)
    {B : Nat} {bs : List UInt8} (hr : RdC bv C B A n c bs)
    (h : ∀ (p : Addr) (x : UInt8), Hid (bs[I.toNat]? = some x) → (x.toNat : Int) ≤ 255 → (∀ w, C w → w.cell? p = some (.int .u8 (x.toNat : Int))) → wpQuiet P ops C Q rest (a.put o.dst (.pointer (some p)))) :
    wpQuiet P ops C Q (o :: rest) a := by
  have hl : I.toNat < bs.length := by have := (hr.rd w0 hC0).len; omega
  obtain ⟨b, off, hA, hb, hc⟩ := (hr.rd w0 hC0).rd.at_ I.toNat (bv bs[I.toNat]) (by rw [List.getElem?_map, List.getElem?_eq_getElem hl]; rfl)
  subst hA
  refine wq_run hw (v := .pointer (some ((⟨b, off, none⟩ : Addr).add (I.toNat * 1)))) (fun w hC => ?_) ?_
  · simp only [execOp, ho, hs, hi, Sem.run_bind, run_indexAt T el.ht (el.size w) _ n c k I h0 h1, Result.andThen, Sem.run_pure]
  · refine h _ bs[I.toNat] (List.getElem?_eq_getElem hl) (by have := (bs[I.toNat]).toNat_lt; omega) fun w hC => ?_
    obtain ⟨b', off', hA', _, hc'⟩ := (hr.rd w hC).rd.at_ I.toNat (bv bs[I.toNat]) (by rw [List.getElem?_map, List.getElem?_eq_getElem hl]; rfl)
    injection hA' with hA'
    injection hA' with e1 e2
    subst e1 e2
    rw [Nat.mul_one, Addr.add_lit]
    exact hc'
theorem wq_cutS (hw : Region.wanted o (yielded ops a.tmps) = true) (T : TypeId) (s : Operand) (lo hi mx : Option Operand) (ho : o.op = .slice T s lo hi mx) {E bytes : Nat} {z : Value} (el : El P T E z bytes)
    {α : Type} {f : α → Value} {A : Option Addr} {n c : Nat} (hs : a.eval s = .slice A n c) {L H M : Nat}
    (hb : ∀ w, (Instr.sliceBounds true n c (lo.map a.eval) (hi.map a.eval) (mx.map a.eval)).run P w = .ok (L, H, M) w)
    {B : Nat} {xs : List α} (hr : RdC f C B A n c xs) (hLH : L ≤ H) (hHM : H ≤ M) (hHn : H ≤ n)
    (h : ∀ A', RdC f C B A' (H - L) (M - L) ((xs.take H).drop L) → wpQuiet P ops C Q rest (a.put o.dst (.slice A' (H - L) (M - L)))) :
    wpQuiet P ops C Q (o :: rest) a := by
  refine wq_run hw (v := .slice (cutA A L M) (H - L) (M - L)) (fun w hC => ?_) (h _ ⟨fun w hC => (hr.rd w hC).cut L H M hLH hHM hHn⟩)
  simp only [execOp, ho, hs, Sem.run_bind, Instr.sliceAt, run_underlying el.ht, Instr.slice, hb w, el.size, Result.andThen, Sem.run_pure, Nat.mul_one, cutA]
section
variable (hw : Region.wanted o (yielded ops a.tmps) = true) (T : TypeId) (s : Operand) {E bytes : Nat} {z : Value} (el : El P T E z bytes)
    {α : Type} {f : α → Value} {A : Option Addr} {n c : Nat} (hs : a.eval s = .slice A n c) {B : Nat} {xs : List α} (hr : RdC f C B A n c xs) {w0 : World} (hC0 : C w0)
include hw el hs hr hC0
theorem wq_cut_l (lo : Operand) (ho : o.op = .slice T s (some lo) Option.none Option.none) {k : IntKind} {I : Int} (hlo : a.eval lo = .int k I) (L : Nat) (hL : I = (L : Int) ∧ L ≤ n)
    (h : ∀ A', RdC f C B A' (n - L) (c - L) (xs.drop L) → wpQuiet P ops C Q rest (a.put o.dst (.slice A' (n - L) (c - L)))) : wpQuiet P ops C Q (o :: rest) a := by
  obtain ⟨rfl, hL⟩ := hL
  refine wq_cutS hw T s _ _ _ ho el hs (L := L) (H := n) (M := c) (fun w => ?_) hr hL (hr.rd w0 hC0).cap (Nat.le_refl _) fun A' hA => h A' ?_
  · simp only [Option.map_some, Option.map_none, hlo]
    exact bounds_l k hL
  · rw [List.take_of_length_le (Nat.le_of_eq (hr.rd w0 hC0).len)] at hA
    exact hA
theorem wq_cut_h (hi : Operand) (ho : o.op = .slice T s Option.none (some hi) Option.none) {k : IntKind} {I : Int} (hhi : a.eval hi = .int k I) (H : Nat) (hH : I = (H : Int) ∧ H ≤ n)
    (h : ∀ A', RdC f C B A' H c (xs.take H) → wpQuiet P ops C Q rest (a.put o.dst (.slice A' H c))) : wpQuiet P ops C Q (o :: rest) a := by
  obtain ⟨rfl, hH⟩ := hH
  have hc := (hr.rd w0 hC0).cap
  refine wq_cutS hw T s _ _ _ ho el hs (L := 0) (H := H) (M := c) (fun w => ?_) hr (Nat.zero_le _) (by omega) hH fun A' hA => h A' hA
  simp only [Option.map_some, Option.map_none, hhi]
  exact bounds_h k (by omega)
theorem wq_cut_lh (lo hi : Operand) (ho : o.op = .slice T s (some lo) (some hi) Option.none) {k k' : IntKind} {I J : Int} (hlo : a.eval lo = .int k I) (hhi : a.eval hi = .int k' J) (L H : Nat) (hH : I = (L : Int) ∧ J = (H : Int) ∧ L ≤ H ∧ H ≤ n)
    (h : ∀ A', RdC f C B A' (H - L) (c - L) ((xs.take H).drop L) → wpQuiet P ops C Q rest (a.put o.dst (.slice A' (H - L) (c - L)))) : wpQuiet P ops C Q (o :: rest) a := by
  obtain ⟨rfl, rfl, hLH, hH⟩ := hH
  have hc := (hr.rd w0 hC0).cap
  refine wq_cutS hw T s _ _ _ ho el hs (L := L) (H := H) (M := c) (fun w => ?_) hr hLH (by omega) hH h
  simp only [Option.map_some, Option.map_none, hlo, hhi]
  exact bounds_lh k k' hLH (by omega)
end
end
end Go.Th
