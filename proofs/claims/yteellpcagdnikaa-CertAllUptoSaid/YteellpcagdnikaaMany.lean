/-
  Words for memory, of elements of several cells: a slice that reads as a list ('RdM'), a row of the call's own ('OwM'), a variable's block known whole ('Box'), and the steps of a walk over them. Plain theorems over any program.
-/
import Derived.Test.YteellpcagdnikaaQuiet
import Derived.Laws.Rows
namespace Go.Th
open Go.RowKit
set_option linter.unusedVariables false

theorem flat_get {α : Type} {f : α → List Value} {k : Nat} (hf : ∀ x, (f x).length = k) {xs : List α} {i : Nat} {x : α} (h : xs[i]? = some x) {j : Nat} (hj : j < k) : (xs.flatMap f)[i * k + j]? = (f x)[j]? := by
  induction xs generalizing i with
  | nil => simp at h
  | cons y ys ih =>
    rw [List.flatMap_cons]
    cases i with
    | zero =>
      simp at h
      subst h
      rw [List.getElem?_append_left (by rw [hf]; omega)]
      simp
    | succ i =>
      rw [List.getElem?_cons_succ] at h
      rw [List.getElem?_append_right (by rw [hf, Nat.succ_mul]; omega), hf, show (i + 1) * k + j - k = i * k + j by rw [Nat.succ_mul]; omega]
      exact ih h
theorem flat_length {α : Type} {f : α → List Value} {k : Nat} (hf : ∀ x, (f x).length = k) (xs : List α) : (xs.flatMap f).length = xs.length * k := by
  induction xs with
  | nil => simp
  | cons y ys ih => rw [List.flatMap_cons, List.length_append, ih, hf, List.length_cons, Nat.succ_mul]; omega
theorem flat_take {α : Type} {f : α → List Value} {k : Nat} (hf : ∀ x, (f x).length = k) : ∀ (xs : List α) (n : Nat), (xs.flatMap f).take (n * k) = (xs.take n).flatMap f
  | xs, 0 => by simp
  | [], n + 1 => by simp
  | y :: ys, n + 1 => by
    rw [List.flatMap_cons, List.take_succ_cons, List.flatMap_cons, List.take_append, hf, List.take_of_length_le (by rw [hf, Nat.succ_mul]; omega), show (n + 1) * k - k = n * k by rw [Nat.succ_mul]; omega, flat_take hf ys n]
theorem flat_drop {α : Type} {f : α → List Value} {k : Nat} (hf : ∀ x, (f x).length = k) : ∀ (xs : List α) (n : Nat), (xs.flatMap f).drop (n * k) = (xs.drop n).flatMap f
  | xs, 0 => by simp
  | [], n + 1 => by simp
  | y :: ys, n + 1 => by
    rw [List.flatMap_cons, List.drop_succ_cons, List.drop_append, hf, List.drop_eq_nil_of_le (by rw [hf, Nat.succ_mul]; omega), List.nil_append, show (n + 1) * k - k = n * k by rw [Nat.succ_mul]; omega, flat_drop hf ys n]

structure RdM {α : Type} (f : α → List Value) (w : World) (B : Nat) (A : Option Addr) (n c : Nat) (xs : List α) : Prop where
  rd : Rd w B A (xs.flatMap f)
  len : xs.length = n
  cap : n ≤ c
structure OwM {α : Type} (f : α → List Value) (k : Nat) (w : World) (base : Nat) (e : TypeId) (A : Option Addr) (n c : Nat) (xs : List α) : Prop where
  ow : Ow w base e k A n c (xs.flatMap f)
  len : xs.length = n
section
variable {α : Type} {f : α → List Value} {k : Nat} {w w' : World} {B B' n c base : Nat} {A : Option Addr} {xs : List α} {e : TypeId}
theorem RdM.below (h : RdM f w B A n c xs) (hb : Below B w w') : RdM f w' B A n c xs := ⟨h.rd.below hb, h.len, h.cap⟩
theorem RdM.step (h : RdM f w B A n c xs) (hb : Below w.heap.size w w') : RdM f w' B A n c xs :=
  ⟨⟨fun j u hu => by
    obtain ⟨b, o, e, hB, hc⟩ := h.rd.at_ j u hu
    exact ⟨b, o, e, hB, (hb.cell (World.block_lt_of_cell? w ⟨b, o + j, none⟩ hc)).trans hc⟩⟩, h.len, h.cap⟩
theorem RdM.more (h : RdM f w B A n c xs) (hB : B ≤ B') : RdM f w B' A n c xs := ⟨h.rd.more hB, h.len, h.cap⟩
theorem RdM.heap (h : RdM f w B A n c xs) : RdM f w w.heap.size A n c xs := ⟨h.rd.heap, h.len, h.cap⟩
theorem RdM.alloc (h : RdM f w B A n c xs) (o : Obj) : RdM f (w.alloc o) B A n c xs := ⟨h.rd.alloc o, h.len, h.cap⟩
theorem RdM.drewN (h : RdM f w B A n c xs) (k : Nat) : RdM f (w.drewN k) B A n c xs := ⟨h.rd.drewN k, h.len, h.cap⟩
theorem RdM.drew (h : RdM f w B A n c xs) : RdM f w.drew B A n c xs := ⟨h.rd.drew, h.len, h.cap⟩
theorem RdM.nil (w : World) (B : Nat) : RdM f w B Option.none 0 0 [] := ⟨Rd.nil _ _ _, rfl, Nat.le_refl _⟩
theorem OwM.cap (h : OwM f k w base e A n c xs) : n ≤ c := h.ow.cap
theorem OwM.capMax (h : OwM f k w base e A n c xs) : c ≤ maxLen := h.ow.capMax
theorem OwM.rd (h : OwM f k w base e A n c xs) : RdM f w w.heap.size A n c xs := ⟨h.ow.rd, h.len, h.cap⟩
theorem OwM.below (h : OwM f k w base e A n c xs) (hb : Below w.heap.size w w') : OwM f k w' base e A n c xs := ⟨h.ow.below hb, h.len⟩
theorem OwM.alloc (h : OwM f k w base e A n c xs) (o : Obj) : OwM f k (w.alloc o) base e A n c xs := h.below ((Below.refl _ _).alloc (Nat.le_refl _) o)
theorem OwM.drewN (h : OwM f k w base e A n c xs) (m : Nat) : OwM f k (w.drewN m) base e A n c xs := ⟨h.ow.drewN m, h.len⟩
theorem OwM.base_le {base' : Nat} (h : OwM f k w base e A n c xs) (hb : base' ≤ base) : OwM f k w base' e A n c xs := ⟨h.ow.base_le hb, h.len⟩
theorem OwM.nil_ (w : World) (base : Nat) (e : TypeId) : OwM f k w base e Option.none 0 0 [] := ⟨Ow.nil_ _ _ _ _, rfl⟩
theorem OwM.grown {row : Option Nat} (h : OwM f k w base e A n c xs) (hg : w.grownBy w' row) (hne : ∀ g, A = some ⟨g, 0, Option.none⟩ → row ≠ some g) : OwM f k w' base e A n c xs := ⟨h.ow.grown hg hne, h.len⟩
theorem OwM.lit' (hf : ∀ x, (f x).length = k) (w : World) (cs : Array Value) (n g : Nat) (hg : g = w.heap.size) (hb : base ≤ w.heap.size) (hm : n ≤ maxLen) (hn : xs.length = n) (hs : cs.toList = xs.flatMap f) : OwM f k (w.alloc (.cells cs e)) base e (some ⟨g, 0, Option.none⟩) n n xs := by
  subst hg
  have h1 : cs.size = n * k := by rw [← Array.length_toList, hs, flat_length hf, hn]
  refine ⟨⟨?_⟩, hn⟩
  rw [← hs]
  exact World.ownsRow_lit w cs n hb hm h1
theorem OwM.lit (hf : ∀ x, (f x).length = k) (w : World) (cs : Array Value) (n : Nat) (hb : base ≤ w.heap.size) (hm : n ≤ maxLen) (hn : xs.length = n) (hs : cs.toList = xs.flatMap f) : OwM f k (w.alloc (.cells cs e)) base e (some ⟨w.heap.size, 0, Option.none⟩) n n xs := OwM.lit' hf w cs n _ rfl hb hm hn hs
theorem RdM.cells (hf : ∀ x, (f x).length = k) (h : RdM f w B A n c xs) {i : Nat} {x : α} (hx : xs[i]? = some x) (hk : 0 < k) : ∃ b o, A = some ⟨b, o, none⟩ ∧ b < B ∧ ∀ j v, (f x)[j]? = some v → w.cell? ⟨b, o + i * k + j, none⟩ = some v := by
  have key : ∀ j v, (f x)[j]? = some v → (xs.flatMap f)[i * k + j]? = some v := fun j v hv => by
    have hj : j < k := by rw [← hf x]; exact (List.getElem?_eq_some_iff.1 hv).1
    rw [flat_get hf hx hj, hv]
  obtain ⟨v0, hv0⟩ : ∃ v, (f x)[0]? = some v := ⟨(f x)[0]'(by rw [hf]; exact hk), List.getElem?_eq_getElem _⟩
  obtain ⟨b, o, e, hb, _⟩ := h.rd.at_ _ _ (key 0 v0 hv0)
  refine ⟨b, o, e, hb, fun j v hv => ?_⟩
  obtain ⟨b', o', e', _, hc⟩ := h.rd.at_ _ _ (key j v hv)
  rw [e] at e'
  injection e' with e'
  injection e' with e1 e2
  subst e1 e2
  rw [Nat.add_assoc]
  exact hc
theorem RdM.cut (hf : ∀ x, (f x).length = k) (h : RdM f w B A n c xs) (L H M : Nat) (hLH : L ≤ H) (hHM : H ≤ M) (hHn : H ≤ n) (hk : 0 < k) :
    RdM f w B (if M = L then A else A.map (·.add (L * k))) (H - L) (M - L) ((xs.take H).drop L) := by
  refine ⟨?_, by rw [List.length_drop, List.length_take, h.len]; omega, by omega⟩
  have h1 := h.rd.take (H * k)
  rw [flat_take hf] at h1
  rw [← flat_drop hf]
  by_cases e : M = L
  · have : H = L := by omega
    subst this
    rw [if_pos e, List.drop_eq_nil_of_le (by rw [flat_length hf, List.length_take]; exact Nat.mul_le_mul_right _ (by omega))]
    exact Rd.nil _ _ _
  · rw [if_neg e]
    have h2 := h1.drop (L * k) (L * k + 1) (fun e => by omega)
    rwa [if_neg (by omega)] at h2
end

/-- A slice type and its elements, of k cells each. -/
structure ElM (P : Program) (t E : TypeId) (z : Value) (bytes k : Nat) : Prop where
  ht : P.underlying t = some (.slice E)
  info : ∃ i, P.info? E = some i ∧ i.zero = some z ∧ i.size = k ∧ i.bytes = bytes
  cells : z.cells.size = k
  size : ∀ w, (sizeOf E).run P w = .ok k w
  pos : 0 < k
section
variable {P : Program} {ops : Array Oper} {rest : List Oper} {o : Oper} {a : Act} {Q : Exit → Act → World → Prop} {w : World} {α : Type} {f : α → List Value} {k : Nat} (hf : ∀ x, (f x).length = k)
/-- s[i]: the place. -/
theorem wm_at (hf : ∀ x, (f x).length = k) (hw : Region.wanted o (yielded ops a.tmps) = true) (T : TypeId) (s i : Operand) (ho : o.op = .indexAddr T s i) {E bytes : Nat} {z : Value} (el : ElM P T E z bytes k)
    {A : Option Addr} {n c : Nat} {kk : IntKind} {I : Int} (hs : a.eval s = .slice A n c) (hi : a.eval i = .int kk I) (h0 : 0 ≤ I) (h1 : I < n)
    {B : Nat} {xs : List α} (hr : RdM f w B A n c xs)
    (h : ∀ (b j : Nat) (x : α), Hid (xs[I.toNat]? = some x) → b < B → Hid (∀ i v, (f x)[i]? = some v → w.cell? ⟨b, j + i, none⟩ = some v) → wpList P ops Q rest (a.put o.dst (.pointer (some ⟨b, j, none⟩))) w) :
    wpList P ops Q (o :: rest) a w := by
  have hl : I.toNat < xs.length := by have := hr.len; omega
  obtain ⟨b, off, hA, hb, hc⟩ := hr.cells hf (List.getElem?_eq_getElem hl) el.pos
  subst hA
  refine wl_run hw (v := .pointer (some ⟨b, off + I.toNat * k, none⟩)) (w' := w) ?_ (h b _ _ (List.getElem?_eq_getElem hl) hb hc)
  have := run_indexAt (P := P) (w := w) T el.ht (el.size w) ⟨b, off, none⟩ n c kk I h0 h1
  rw [Addr.add_lit] at this
  simp only [execOp, ho, hs, hi, Sem.run_bind, this, Result.andThen, Sem.run_pure]
/-- A cut. -/
theorem wm_cutS (hf : ∀ x, (f x).length = k) (hw : Region.wanted o (yielded ops a.tmps) = true) (T : TypeId) (s : Operand) (lo hi mx : Option Operand) (ho : o.op = .slice T s lo hi mx) {E bytes : Nat} {z : Value} (el : ElM P T E z bytes k)
    {A : Option Addr} {n c : Nat} (hs : a.eval s = .slice A n c) {L H M : Nat}
    (hb : (Instr.sliceBounds true n c (lo.map a.eval) (hi.map a.eval) (mx.map a.eval)).run P w = .ok (L, H, M) w)
    {B : Nat} {xs : List α} (hr : RdM f w B A n c xs) (hLH : L ≤ H) (hHM : H ≤ M) (hHn : H ≤ n)
    (h : ∀ A', RdM f w B A' (H - L) (M - L) ((xs.take H).drop L) → wpList P ops Q rest (a.put o.dst (.slice A' (H - L) (M - L))) w) :
    wpList P ops Q (o :: rest) a w := by
  refine wl_run hw (v := .slice (if M = L then A else A.map (·.add (L * k))) (H - L) (M - L)) (w' := w) ?_ (h _ (hr.cut hf L H M hLH hHM hHn el.pos))
  simp only [execOp, ho, hs, Sem.run_bind, Instr.sliceAt, run_underlying el.ht, Instr.slice, hb, el.size, Result.andThen, Sem.run_pure]
section
variable (hf : ∀ x, (f x).length = k) (hw : Region.wanted o (yielded ops a.tmps) = true) (T : TypeId) (s : Operand) {E bytes : Nat} {z : Value} (el : ElM P T E z bytes k)
    {A : Option Addr} {n c : Nat} (hs : a.eval s = .slice A n c) {B : Nat} {xs : List α} (hr : RdM f w B A n c xs)
include hf hw el hs hr
theorem wm_cut_l (lo : Operand) (ho : o.op = .slice T s (some lo) Option.none Option.none) {kk : IntKind} {I : Int} (hlo : a.eval lo = .int kk I) (L : Nat) (hL : I = (L : Int) ∧ L ≤ n)
    (h : ∀ A', RdM f w B A' (n - L) (c - L) (xs.drop L) → wpList P ops Q rest (a.put o.dst (.slice A' (n - L) (c - L))) w) : wpList P ops Q (o :: rest) a w := by
  obtain ⟨rfl, hL⟩ := hL
  refine wm_cutS hf hw T s _ _ _ ho el hs (L := L) (H := n) (M := c) ?_ hr hL hr.cap (Nat.le_refl _) fun A' hA => h A' ?_
  · simp only [Option.map_some, Option.map_none, hlo]
    exact bounds_l kk hL
  · rw [List.take_of_length_le (Nat.le_of_eq hr.len)] at hA
    exact hA
theorem wm_cut_h (hi : Operand) (ho : o.op = .slice T s Option.none (some hi) Option.none) {kk : IntKind} {I : Int} (hhi : a.eval hi = .int kk I) (H : Nat) (hH : I = (H : Int) ∧ H ≤ n)
    (h : ∀ A', RdM f w B A' H c (xs.take H) → wpList P ops Q rest (a.put o.dst (.slice A' H c)) w) : wpList P ops Q (o :: rest) a w := by
  obtain ⟨rfl, hH⟩ := hH
  have hc := hr.cap
  refine wm_cutS hf hw T s _ _ _ ho el hs (L := 0) (H := H) (M := c) ?_ hr (Nat.zero_le _) (by omega) hH fun A' hA => h A' ?_
  · simp only [Option.map_some, Option.map_none, hhi]
    exact bounds_h kk (by omega)
  · exact hA
theorem wm_cut_lh (lo hi : Operand) (ho : o.op = .slice T s (some lo) (some hi) Option.none) {kk k' : IntKind} {I J : Int} (hlo : a.eval lo = .int kk I) (hhi : a.eval hi = .int k' J) (L H : Nat) (hH : I = (L : Int) ∧ J = (H : Int) ∧ L ≤ H ∧ H ≤ n)
    (h : ∀ A', RdM f w B A' (H - L) (c - L) ((xs.take H).drop L) → wpList P ops Q rest (a.put o.dst (.slice A' (H - L) (c - L))) w) : wpList P ops Q (o :: rest) a w := by
  obtain ⟨rfl, rfl, hLH, hH⟩ := hH
  have hc := hr.cap
  refine wm_cutS hf hw T s _ _ _ ho el hs (L := L) (H := H) (M := c) ?_ hr hLH (by omega) hH h
  simp only [Option.map_some, Option.map_none, hlo, hhi]
  exact bounds_lh kk k' hLH (by omega)
end
/-- append -/
theorem wm_append (hf : ∀ x, (f x).length = k) (hw : Region.wanted o (yielded ops a.tmps) = true) (s x : Operand) (t : TypeId)
    (ho : o.op = .call { callee := .builtin .append, args := #[s, x], argTypes := #[t, t] })
    {base E : Nat} {z : Value} {bytes : Nat} (el : ElM P t E z bytes k) (h1 : ∀ x, ∀ u ∈ f x, u.oneCell' = true)
    {A : Option Addr} {n c : Nat} (hs : a.eval s = .slice A n c) {xs : List α} (hown : OwM f k w base E A n c xs)
    {B : Nat} {A' : Option Addr} {m c' : Nat} (hx : a.eval x = .slice A' m c') {ys : List α} (hr : RdM f w B A' m c' ys)
    (hbytes : (n + m) * bytes ≤ 140737488355328) (hpos : 0 < bytes) (hbase : base ≤ w.heap.size)
    (h : ∀ A'' c'' w', OwM f k w' base E A'' (n + m) c'' (xs ++ ys) → w.grownBy w' (rowOf A) → Below base w w' → wpList P ops Q rest (a.put o.dst (.slice A'' (n + m) c'')) w') : wpList P ops Q (o :: rest) a w := by
  obtain ⟨i, hi, hz, hsize, hby⟩ := el.info
  have h63 : n + m ≤ maxLen := by
    have := Nat.le_mul_of_pos_right (n + m) hpos
    simp only [maxLen]; omega
  exact wl_append hw s x t ho el.ht hi hz hsize hby el.cells el.pos hs hown.ow hx (by rw [flat_length hf, hr.len]) hr.rd (by
    intro u hu
    obtain ⟨y, _, hy⟩ := List.mem_flatMap.1 hu
    exact h1 y u hy) h63 hbytes hbase fun A'' c'' w' h1 h2 h3 => h A'' c'' w' ⟨by rw [← List.flatMap_append] at h1; exact h1, by rw [List.length_append, hown.len, hr.len]⟩ h2 h3
end

/-! ### A variable's block, known whole. -/
structure Box (w : World) (g : Nat) (t : TypeId) (cs : Array Value) : Prop where
  at_ : w.heap[g]? = some (.cells cs t (0, 0))
section
variable {w w' : World} {g : Nat} {t : TypeId} {cs : Array Value}
theorem Box.lt (h : Box w g t cs) : g < w.heap.size := (Array.getElem?_eq_some_iff.1 h.at_).1
theorem Box.below {B : Nat} (h : Box w g t cs) (hb : Below B w w') (hg : g < B) : Box w' g t cs := ⟨(hb.block g hg).trans h.at_⟩
theorem Box.step (h : Box w g t cs) (hb : Below w.heap.size w w') : Box w' g t cs := h.below hb h.lt
theorem Box.new (w : World) (cs : Array Value) (t : TypeId) : Box (w.alloc (.cells cs t)) w.heap.size t cs := ⟨heap_alloc_new w _⟩
theorem Box.alloc (h : Box w g t cs) (o : Obj) : Box (w.alloc o) g t cs := h.step (below_alloc w (Nat.le_refl _) o)
theorem Box.drew (h : Box w g t cs) : Box w.drew g t cs := ⟨h.at_⟩
theorem Box.drewN (h : Box w g t cs) (n : Nat) : Box (w.drewN n) g t cs := ⟨h.at_⟩
theorem Box.grown {row : Option Nat} (h : Box w g t cs) (hg : w.grownBy w' row) (hne : row ≠ some g) : Box w' g t cs := ⟨(hg.block g h.lt (fun e => hne e.symm)).trans h.at_⟩
theorem Box.cell (h : Box w g t cs) (j : Nat) : w.cell? ⟨g, j, none⟩ = cs[j]? := cell_of_row w g j cs t (0, 0) h.at_
theorem Box.frozen (h : Box w g t cs) (j : Nat) : w.frozen? ⟨g, j, none⟩ = false := frozen_of_row w g j cs t h.at_
theorem Box.setRow (h : Box w g t cs) (cs' : Array Value) : Box (w.setRow g cs') g t cs' ∧ w.grownBy (w.setRow g cs') (some g) :=
  ⟨⟨setRow_heap w g cs cs' t (0, 0) h.at_⟩, ⟨rfl, rfl, rfl, by simp, fun k _ hk => setRow_other w g k cs' (fun e => hk (by rw [e]))⟩⟩
theorem Box.setCell (h : Box w g t cs) (j : Nat) (v : Value) : Box (w.setCell ⟨g, j, none⟩ v) g t (cs.setIfInBounds j v) ∧ w.grownBy (w.setCell ⟨g, j, none⟩ v) (some g) := by
  rw [setCell_eq_setRow w g j cs t (0, 0) v h.at_]
  exact h.setRow _
theorem below_of_grown {B : Nat} {row : Option Nat} (hg : w.grownBy w' row) (hr : ∀ k, row = some k → B ≤ k) (hB : B ≤ w.heap.size) : Below B w w' := (Below.refl _ _).grown hg hB hr
end
section
variable {P : Program} {ops : Array Oper} {rest : List Oper} {o : Oper} {a : Act} {Q : Exit → Act → World → Prop} {w : World}
/-- A struct type: how many cells. -/
structure St (P : Program) (T : TypeId) (k : Nat) : Prop where
  under : ∃ fs, P.underlying T = some (.struct fs)
  size : (P.info? T).map (·.size) = some k
/-- The variable, whole. -/
theorem wb_load (hw : Region.wanted o (yielded ops a.tmps) = true) (T : TypeId) (x : Operand) (ho : o.op = .load T x) {k : Nat} (st : St P T k) {g : Nat} {t : TypeId} {cs : Array Value} (hx : a.eval x = .pointer (some ⟨g, 0, none⟩)) (hb : Box w g t cs) (hk : cs.size = k)
    (h : wpList P ops Q rest (a.put o.dst (.agg cs)) w) : wpList P ops Q (o :: rest) a w := by
  obtain ⟨fs, hu⟩ := st.under
  subst hk
  refine wl_run hw ?_ h
  simp only [execOp, ho, hx, Instr.loadAt, Instr.sureAddr, Sem.run_bind, Sem.run_pure, Result.andThen_ok, run_loadVar_row w g t T cs (0, 0) _ hb.at_ hu rfl st.size]
/-- It is set, whole. -/
theorem wb_store (hw : Region.wanted o (yielded ops a.tmps) = true) (T : TypeId) (x y : Operand) (ho : o.op = .store T x y) {k : Nat} (st : St P T k) {g : Nat} {t : TypeId} {cs cs' : Array Value} (hx : a.eval x = .pointer (some ⟨g, 0, none⟩)) (hy : a.eval y = .agg cs')
    (hb : Box w g t cs) (hk : cs.size = k) (hk' : cs'.size = k) (h1 : cs'.all (·.oneCell') = true)
    (h : ∀ w', Box w' g t cs' → w.grownBy w' (some g) → wpList P ops Q rest (a.put o.dst undef) w') : wpList P ops Q (o :: rest) a w := by
  subst hk'
  obtain ⟨h2, h3⟩ := hb.setRow cs'
  refine wl_run0 hw ?_ (h _ h2 h3)
  simp only [execOp, ho, hx, hy, Instr.storeAt, Instr.sureAddr, Sem.run_bind, Sem.run_pure, Result.andThen_ok, run_storeVar_row w g t T cs cs' hb.at_ st.size hk h1]
/-- An element, whole. -/
theorem run_loadVar_at {T : TypeId} {k : Nat} (st : St P T k) {b j : Nat} {cs : List Value} (hk : cs.length = k) (hc : ∀ i v, cs[i]? = some v → w.cell? ⟨b, j + i, none⟩ = some v) : (loadVar T ⟨b, j, none⟩).run P w = .ok (.agg cs.toArray) w := by
  obtain ⟨fs, hu⟩ := st.under
  have hl : (loadCells ⟨b, j, none⟩ cs.length).run P w = .ok cs.toArray w := run_loadCells_list (P := P) w ⟨b, j, none⟩ cs (fun i v hv => by rw [Addr.add_lit]; exact hc i v hv)
  have hs := st.size
  cases hq : P.info? T with
  | none => simp [hq] at hs
  | some i =>
    have hs' : i.size = k := by simpa [hq] using hs
    have hagg : (isAgg T).run P w = .ok true w := by
      unfold isAgg
      rw [Sem.run_bind, run_underlying hu w]
      rfl
    simp [loadVar, Sem.run_bind, hagg, sizeOf, typeInfo, hq, hs', ← hk, hl]
theorem wm_load (hw : Region.wanted o (yielded ops a.tmps) = true) (T : TypeId) (x : Operand) (ho : o.op = .load T x) {k : Nat} (st : St P T k) {b j : Nat} {cs : List Value} (hx : a.eval x = .pointer (some ⟨b, j, none⟩)) (hk : cs.length = k) (hc : ∀ i v, cs[i]? = some v → w.cell? ⟨b, j + i, none⟩ = some v)
    (h : wpList P ops Q rest (a.put o.dst (.agg cs.toArray)) w) : wpList P ops Q (o :: rest) a w := by
  refine wl_run hw ?_ h
  simp only [execOp, ho, hx, Instr.loadAt, Instr.sureAddr, Sem.run_bind, Sem.run_pure, Result.andThen_ok, run_loadVar_at st hk hc]
end
end Go.Th
