/-
  Laid together by wip/tools/merge.py out of: RuleAt, Store, Part, CertTracesLaw, CertFitLaw, PartMem, Types, CertMeet, SetB, CertMay, CertMany, CertTraces, NewArms, Append, CertFirst.
-/
import Derived.Deep.MidRow
import Derived.Test.YtjambnlocjjjpaaProg
import Derived.KernelRfl
import Derived.Deep.DeepCutAuto
import Derived.Maps.OwnOps
import Derived.Maps.OwnSet
import Derived.Maps.Keyed
import Derived.Great.BuildSlice
import Derived.Test.YtjambnlocjjjpaaCfMa

/-! ### RuleAt -/
namespace Go.Th
open Go.RowKit
set_option linter.unusedVariables false
theorem Ru.one (r : Ru) : ∀ u ∈ r.cs, u.oneCell' = true := by
  intro u hu
  simp only [Ru.cs, List.mem_cons, List.not_mem_nil, or_false] at hu
  rcases hu with rfl | rfl | rfl | rfl <;> rfl
section
variable {P : Program} {ops : Array Oper} {rest : List Oper} {o : Oper} {a : Act} {Q : Exit → Act → World → Prop} {w : World}
/-- A rule is read. -/
theorem wr_load (hw : Region.wanted o (yielded ops a.tmps) = true) (T : TypeId) (x : Operand) (ho : o.op = .load T x) (st : St P T 4) {b j : Nat} {r : Ru} (hx : a.eval x = .pointer (some ⟨b, j, none⟩)) (hc : Hid (∀ i v, r.cs[i]? = some v → w.cell? ⟨b, j + i, none⟩ = some v))
    (h : wpList P ops Q rest (a.put o.dst (.agg #[.int .u32 r.a, .int .i64 r.n, .int .i64 r.act, .int .i64 r.next])) w) : wpList P ops Q (o :: rest) a w :=
  wm_load hw T x ho st hx (Ru.cs_length r) hc.out h
/-- A variable that holds a rule is read. -/
theorem wr_box (hw : Region.wanted o (yielded ops a.tmps) = true) (T : TypeId) (x : Operand) (ho : o.op = .load T x) (st : St P T 4) {g : Nat} {t : TypeId} {r : Ru} (hx : a.eval x = .pointer (some ⟨g, 0, none⟩)) (hb : Box w g t r.cs.toArray)
    (h : wpList P ops Q rest (a.put o.dst (.agg #[.int .u32 r.a, .int .i64 r.n, .int .i64 r.act, .int .i64 r.next])) w) : wpList P ops Q (o :: rest) a w :=
  wb_load hw T x ho st hx hb rfl h
/-- It is set. -/
theorem wr_store (hw : Region.wanted o (yielded ops a.tmps) = true) (T : TypeId) (x y : Operand) (ho : o.op = .store T x y) (st : St P T 4) {g : Nat} {t : TypeId} {r s : Ru} (hx : a.eval x = .pointer (some ⟨g, 0, none⟩)) (hy : a.eval y = .agg #[.int .u32 s.a, .int .i64 s.n, .int .i64 s.act, .int .i64 s.next])
    (hb : Box w g t r.cs.toArray) (h : ∀ w', Box w' g t s.cs.toArray → w.grownBy w' (some g) → wpList P ops Q rest (a.put o.dst undef) w') : wpList P ops Q (o :: rest) a w :=
  wb_store hw T x y ho st hx hy hb rfl rfl (by simp [Value.oneCell']) h
end
theorem Box.rule {w : World} {g : Nat} {t : TypeId} {r : Ru} (h : Box w g t r.cs.toArray) : w.cell? ⟨g, 0, none⟩ = some (.int .u32 r.a) ∧ w.cell? ⟨g, 1, none⟩ = some (.int .i64 r.n) ∧ w.cell? ⟨g, 2, none⟩ = some (.int .i64 r.act) ∧ w.cell? ⟨g, 3, none⟩ = some (.int .i64 r.next) :=
  ⟨h.cell 0, h.cell 1, h.cell 2, h.cell 3⟩
section
variable {P : Program} {ops : Array Oper} {rest : List Oper} {o : Oper} {a : Act} {C : World → Prop} {Q : Act → Prop}
/-- s[i] of a row of rules: the place. -/
theorem wqr_at (hw : Region.wanted o (yielded ops a.tmps) = true) (T : TypeId) (s i : Operand) (ho : o.op = .indexAddr T s i) {E bytes : Nat} {z : Value} (el : ElM P T E z bytes 4)
    {A : Option Addr} {n c : Nat} {k : IntKind} {I : Int} (hs : a.eval s = .slice A n c) (hi : a.eval i = .int k I) (h0 : 0 ≤ I) (h1 : I < n) {w0 : World} (hC0 : C w0)
    {B : Nat} {xs : List Ru} (hr : ∀ w, C w → RdM Ru.cs w B A n c xs)
    (h : ∀ (b j : Nat) (x : Ru), Hid (xs[I.toNat]? = some x) → Hid (∀ w, C w → ∀ i v, x.cs[i]? = some v → w.cell? ⟨b, j + i, none⟩ = some v) → wpQuiet P ops C Q rest (a.put o.dst (.pointer (some ⟨b, j, none⟩)))) :
    wpQuiet P ops C Q (o :: rest) a := by
  have hl : I.toNat < xs.length := by have := (hr w0 hC0).len; omega
  obtain ⟨b, off, hA, hb, hc⟩ := (hr w0 hC0).cells Ru.cs_length (List.getElem?_eq_getElem hl) (by omega)
  subst hA
  refine wq_run hw (v := .pointer (some ⟨b, off + I.toNat * 4, none⟩)) (fun w hC => ?_) ?_
  · have := run_indexAt (P := P) (w := w) T el.ht (el.size w) ⟨b, off, none⟩ n c k I h0 h1
    rw [Addr.add_lit] at this
    simp only [execOp, ho, hs, hi, Sem.run_bind, this, Result.andThen, Sem.run_pure]
  · refine h b _ xs[I.toNat] (List.getElem?_eq_getElem hl) fun w hC => ?_
    obtain ⟨b', off', hA', _, hc'⟩ := (hr w hC).cells Ru.cs_length (List.getElem?_eq_getElem hl) (by omega)
    injection hA' with hA'
    injection hA' with e1 e2
    subst e1 e2
    exact hc'
theorem wqr_load (hw : Region.wanted o (yielded ops a.tmps) = true) (T : TypeId) (x : Operand) (ho : o.op = .load T x) (st : St P T 4) {b j : Nat} {r : Ru} (hx : a.eval x = .pointer (some ⟨b, j, none⟩)) (hc : Hid (∀ w, C w → ∀ i v, r.cs[i]? = some v → w.cell? ⟨b, j + i, none⟩ = some v))
    (h : wpQuiet P ops C Q rest (a.put o.dst (.agg #[.int .u32 r.a, .int .i64 r.n, .int .i64 r.act, .int .i64 r.next]))) : wpQuiet P ops C Q (o :: rest) a :=
  wq_run hw (fun w hC => by simp only [execOp, ho, hx, Instr.loadAt, Instr.sureAddr, Sem.run_bind, Sem.run_pure, Result.andThen_ok, run_loadVar_at st (Ru.cs_length r) (hc.out w hC)]; rfl) h
theorem wqr_box (hw : Region.wanted o (yielded ops a.tmps) = true) (T : TypeId) (x : Operand) (ho : o.op = .load T x) (st : St P T 4) {g : Nat} {t : TypeId} {r : Ru} (hx : a.eval x = .pointer (some ⟨g, 0, none⟩)) (hb : ∀ w, C w → Box w g t r.cs.toArray)
    (h : wpQuiet P ops C Q rest (a.put o.dst (.agg #[.int .u32 r.a, .int .i64 r.n, .int .i64 r.act, .int .i64 r.next]))) : wpQuiet P ops C Q (o :: rest) a := by
  obtain ⟨fs, hu⟩ := st.under
  exact wq_run hw (fun w hC => by simp only [execOp, ho, hx, Instr.loadAt, Instr.sureAddr, Sem.run_bind, Sem.run_pure, Result.andThen_ok, run_loadVar_row w g t T r.cs.toArray (0, 0) _ (hb w hC).at_ hu rfl st.size]; rfl) h
theorem RdM.reach {α : Type} {f : α → List Value} {w : World} {B : Nat} {A : Option Addr} {n c : Nat} {xs : List α} (h : RdM f w B A n c xs) : ∀ w', Reach w.heap.size w w' → RdM f w' B A n c xs := fun _ hw => h.step hw.below
theorem Box.reach {w : World} {g : Nat} {t : TypeId} {cs : Array Value} (h : Box w g t cs) : ∀ w', Reach w.heap.size w w' → Box w' g t cs := fun _ hw => h.step hw.below
theorem Box.reachC {w : World} {g : Nat} {t : TypeId} {r : Ru} (h : Box w g t r.cs.toArray) : (∀ q : Step w.heap.size w, q.w.cell? ⟨g, 0, none⟩ = some (.int .u32 r.a)) ∧ (∀ q : Step w.heap.size w, q.w.cell? ⟨g, 1, none⟩ = some (.int .i64 r.n)) ∧ (∀ q : Step w.heap.size w, q.w.cell? ⟨g, 2, none⟩ = some (.int .i64 r.act)) ∧ (∀ q : Step w.heap.size w, q.w.cell? ⟨g, 3, none⟩ = some (.int .i64 r.next)) :=
  ⟨fun q => (h.step q.h).rule.1, fun q => (h.step q.h).rule.2.1, fun q => (h.step q.h).rule.2.2.1, fun q => (h.step q.h).rule.2.2.2⟩
end
section
variable {P : Program} {ops : Array Oper} {rest : List Oper} {o : Oper} {a : Act} {C : World → Prop} {Q : Act → Prop} {α : Type} {f : α → List Value} {k : Nat}
theorem wqm_cutS (hf : ∀ x, (f x).length = k) (hw : Region.wanted o (yielded ops a.tmps) = true) (T : TypeId) (s : Operand) (lo hi mx : Option Operand) (ho : o.op = .slice T s lo hi mx) {E bytes : Nat} {z : Value} (el : ElM P T E z bytes k)
    {A : Option Addr} {n c : Nat} (hs : a.eval s = .slice A n c) {L H M : Nat}
    (hb : ∀ w, (Instr.sliceBounds true n c (lo.map a.eval) (hi.map a.eval) (mx.map a.eval)).run P w = .ok (L, H, M) w)
    {B : Nat} {xs : List α} (hr : ∀ w, C w → RdM f w B A n c xs) (hLH : L ≤ H) (hHM : H ≤ M) (hHn : H ≤ n)
    (h : ∀ A', (∀ w, C w → RdM f w B A' (H - L) (M - L) ((xs.take H).drop L)) → wpQuiet P ops C Q rest (a.put o.dst (.slice A' (H - L) (M - L)))) :
    wpQuiet P ops C Q (o :: rest) a := by
  refine wq_run hw (v := .slice (if M = L then A else A.map (·.add (L * k))) (H - L) (M - L)) (fun w hC => ?_) (h _ fun w hC => (hr w hC).cut hf L H M hLH hHM hHn el.pos)
  simp only [execOp, ho, hs, Sem.run_bind, Instr.sliceAt, run_underlying el.ht, Instr.slice, hb w, el.size, Result.andThen, Sem.run_pure]
section
variable (hf : ∀ x, (f x).length = k) (hw : Region.wanted o (yielded ops a.tmps) = true) (T : TypeId) (s : Operand) {E bytes : Nat} {z : Value} (el : ElM P T E z bytes k)
    {A : Option Addr} {n c : Nat} (hs : a.eval s = .slice A n c) {B : Nat} {xs : List α} (hr : ∀ w, C w → RdM f w B A n c xs) {w0 : World} (hC0 : C w0)
include hf hw el hs hr hC0
theorem wqm_cut_l (lo : Operand) (ho : o.op = .slice T s (some lo) Option.none Option.none) {kk : IntKind} {I : Int} (hlo : a.eval lo = .int kk I) (L : Nat) (hL : I = (L : Int) ∧ L ≤ n)
    (h : ∀ A', (∀ w, C w → RdM f w B A' (n - L) (c - L) (xs.drop L)) → wpQuiet P ops C Q rest (a.put o.dst (.slice A' (n - L) (c - L)))) : wpQuiet P ops C Q (o :: rest) a := by
  obtain ⟨rfl, hL⟩ := hL
  refine wqm_cutS hf hw T s _ _ _ ho el hs (L := L) (H := n) (M := c) (fun w => ?_) hr hL (hr w0 hC0).cap (Nat.le_refl _) fun A' hA => h A' ?_
  · simp only [Option.map_some, Option.map_none, hlo]
    exact bounds_l kk hL
  · rw [List.take_of_length_le (Nat.le_of_eq (hr w0 hC0).len)] at hA
    exact hA
theorem wqm_cut_h (hi : Operand) (ho : o.op = .slice T s Option.none (some hi) Option.none) {kk : IntKind} {I : Int} (hhi : a.eval hi = .int kk I) (H : Nat) (hH : I = (H : Int) ∧ H ≤ n)
    (h : ∀ A', (∀ w, C w → RdM f w B A' H c (xs.take H)) → wpQuiet P ops C Q rest (a.put o.dst (.slice A' H c))) : wpQuiet P ops C Q (o :: rest) a := by
  obtain ⟨rfl, hH⟩ := hH
  have hc := (hr w0 hC0).cap
  refine wqm_cutS hf hw T s _ _ _ ho el hs (L := 0) (H := H) (M := c) (fun w => ?_) hr (Nat.zero_le _) (by omega) hH fun A' hA => h A' hA
  simp only [Option.map_some, Option.map_none, hhi]
  exact bounds_h kk (by omega)
end
end
end Go.Th

/-! ### Store -/
namespace Go.Th
open Go.RowKit
set_option linter.unusedVariables false
def setMany : List Value → Nat → List Value → List Value
  | xs, _, [] => xs
  | xs, o, v :: vs => setMany (xs.set o v) (o + 1) vs
theorem setMany_mid : ∀ (vs a b c : List Value), b.length = vs.length → setMany (a ++ b ++ c) a.length vs = a ++ vs ++ c
  | [], a, b, c, h => by
    have : b = [] := List.eq_nil_of_length_eq_zero h
    subst this
    rfl
  | v :: vs, a, [], c, h => by simp at h
  | v :: vs, a, b0 :: b, c, h => by
    have ih := setMany_mid vs (a ++ [v]) b c (by simpa using h)
    have e : (a ++ b0 :: b ++ c).set a.length v = a ++ [v] ++ b ++ c := by simp [List.append_assoc]
    rw [setMany, e]
    simpa [List.append_assoc] using ih
theorem setMany_flat {α : Type} {f : α → List Value} {k : Nat} (hf : ∀ x, (f x).length = k) {xs : List α} {i : Nat} (hi : i < xs.length) (r : α) : setMany (xs.flatMap f) (i * k) (f r) = (xs.set i r).flatMap f := by
  have e1 : xs = xs.take i ++ xs[i] :: xs.drop (i + 1) := by simp
  have e2 : xs.set i r = xs.take i ++ r :: xs.drop (i + 1) := List.set_eq_take_append_cons_drop.trans (if_pos hi)
  have e3 : ((xs.take i).flatMap f).length = i * k := by rw [flat_length hf, List.length_take, Nat.min_eq_left (Nat.le_of_lt hi)]
  have e4 : xs.flatMap f = (xs.take i).flatMap f ++ f xs[i] ++ (xs.drop (i + 1)).flatMap f := by
    have := congrArg (List.flatMap f) e1
    rw [List.flatMap_append, List.flatMap_cons] at this
    rw [List.append_assoc]
    exact this
  rw [e4, ← e3, setMany_mid _ _ _ _ (by rw [hf, hf]), e2, List.flatMap_append, List.flatMap_cons, List.append_assoc]
theorem grown_refl (w : World) (row : Option Nat) : w.grownBy w row := ⟨rfl, rfl, rfl, Nat.le_refl _, fun _ _ _ => rfl⟩
theorem grown_trans {a b c : World} {row : Option Nat} (h : a.grownBy b row) (h2 : b.grownBy c row) : a.grownBy c row :=
  ⟨h2.os.trans h.os, h2.tape.trans h.tape, h2.output.trans h.output, Nat.le_trans h.size h2.size, fun k hk hne => (h2.block k (Nat.lt_of_lt_of_le hk h.size) hne).trans (h.block k hk hne)⟩
theorem Ow.stores {base e k g n c : Nat} : ∀ (vs : List Value) {w : World} {xs : List Value} (o : Nat), Ow w base e k (some ⟨g, 0, none⟩) n c xs → Ow (w.setCells g o vs) base e k (some ⟨g, 0, none⟩) n c (setMany xs o vs) ∧ w.grownBy (w.setCells g o vs) (some g)
  | [], w, xs, o, h => ⟨h, grown_refl _ _⟩
  | v :: vs, w, xs, o, h => by
    obtain ⟨h1, h2⟩ := h.own.stored o v
    obtain ⟨h3, h4⟩ := Ow.stores vs (o + 1) (⟨h1⟩ : Ow (w.setCell ⟨g, o, none⟩ v) base e k (some ⟨g, 0, none⟩) n c (xs.set o v))
    exact ⟨h3, grown_trans h2 h4⟩
section
variable {P : Program} {ops : Array Oper} {rest : List Oper} {o : Oper} {a : Act} {Q : Exit → Act → World → Prop} {w : World}
theorem OwM.at0 {α : Type} {f : α → List Value} {k base e n c : Nat} {A : Option Addr} {xs : List α} (h : OwM f k w base e A n c xs) (hn : 0 < n) : ∃ g, A = some ⟨g, 0, none⟩ ∧ base ≤ g ∧ g < w.heap.size := by
  rcases h.ow.form with ⟨_, h0, _⟩ | ⟨g, hA, hb, hl⟩
  · omega
  · exact ⟨g, hA, hb, hl⟩
/-- &s[i] of a row of the call's own. -/
theorem wm_place (hw : Region.wanted o (yielded ops a.tmps) = true) (T : TypeId) (s i : Operand) (ho : o.op = .indexAddr T s i) {E bytes k : Nat} {z : Value} (el : ElM P T E z bytes k)
    {g n c : Nat} {kk : IntKind} {I : Int} (hs : a.eval s = .slice (some ⟨g, 0, none⟩) n c) (hi : a.eval i = .int kk I) (j : Nat) (hj : I = (j : Int) ∧ j < n)
    (h : wpList P ops Q rest (a.put o.dst (.pointer (some ⟨g, j * k, none⟩))) w) : wpList P ops Q (o :: rest) a w := by
  obtain ⟨rfl, hj⟩ := hj
  exact wl_index_own hw T s i ho el.ht el.size hs hi (by omega) (by omega) (by rw [Int.toNat_natCast]; exact h)
/-- s[i] = r, a whole element. -/
theorem wm_store (hw : Region.wanted o (yielded ops a.tmps) = true) (T : TypeId) (x y : Operand) (ho : o.op = .store T x y) {α : Type} {f : α → List Value} {k : Nat} (hf : ∀ x, (f x).length = k) (hs : (P.info? T).map (·.size) = some k)
    {g i n c base e : Nat} {xs : List α} (hx : a.eval x = .pointer (some ⟨g, i * k, none⟩)) (r : α) (hy : a.eval y = .agg (f r).toArray) (h1 : ∀ u ∈ f r, u.oneCell' = true)
    (hown : OwM f k w base e (some ⟨g, 0, none⟩) n c xs) (hi : i < n)
    (h : ∀ w', OwM f k w' base e (some ⟨g, 0, none⟩) n c (xs.set i r) → w.grownBy w' (some g) → Below base w w' → wpList P ops Q rest (a.put o.dst undef) w') : wpList P ops Q (o :: rest) a w := by
  have hl := hown.len
  obtain ⟨h2, h3⟩ := hown.ow.stores (f r) (i * k)
  rw [setMany_flat hf (by omega)] at h2
  have hbase : base ≤ g ∧ g < w.heap.size := by
    rcases hown.ow.form with ⟨e, _⟩ | ⟨g', e, hb, hlt⟩
    · cases e
    · injection e with e; injection e with e; subst e; exact ⟨hb, hlt⟩
  have ht : w.there g (i * k) (f r).toArray.size := fun j hj => by
    have hj' : j < k := by rw [← hf r]; simpa using hj
    have hlt : i * k + j < n * k := by
      have : (i + 1) * k ≤ n * k := Nat.mul_le_mul_right k hi
      rw [Nat.succ_mul] at this
      omega
    refine ⟨?_, hown.ow.own.frozenAt _⟩
    rw [hown.ow.own.cellAt _ hlt, List.getElem?_eq_getElem (by rw [flat_length hf, hl]; exact hlt)]
    rfl
  refine wl_run0 hw ?_ (h _ ⟨h2, by rw [List.length_set]; exact hl⟩ h3 ((Below.refl _ _).grown h3 (by omega) (fun k hk => by injection hk with hk; omega)))
  simp only [execOp, ho, hx, hy, Instr.storeAt, Instr.sureAddr, Sem.run_bind, Sem.run_pure, Result.andThen_ok, run_storeVar_mid w g (i * k) T (f r).toArray ht (by rw [hs]; simp [hf]) (all_oneCell_toArray h1)]
end
/-- A store's guard, by the place's operand. -/
theorem on_store_at {P : Program} {ops : Array Oper} {Q : Exit → Act → World → Prop} {rest : List Oper} {a : Act} {w : World} (x : Operand) {d T y ty pos af g} (h : wpList P ops Q (⟨d, .store T x y, ty, pos, af, g⟩ :: rest) a w) : wpList P ops Q (⟨d, .store T x y, ty, pos, af, g⟩ :: rest) a w := h
section
variable {P : Program} {ops : Array Oper} {C : World → Prop} {Q : Act → Prop} {rest : List Oper} {a : Act}
theorem onq_slice (s : Operand) {d T lo hi mx ty pos af g} (h : wpQuiet P ops C Q (⟨d, .slice T s lo hi mx, ty, pos, af, g⟩ :: rest) a) : wpQuiet P ops C Q (⟨d, .slice T s lo hi mx, ty, pos, af, g⟩ :: rest) a := h
theorem onq_index (s : Operand) {d T i ty pos af g} (h : wpQuiet P ops C Q (⟨d, .indexAddr T s i, ty, pos, af, g⟩ :: rest) a) : wpQuiet P ops C Q (⟨d, .indexAddr T s i, ty, pos, af, g⟩ :: rest) a := h
theorem onq_load (x : Operand) {d T ty pos af g} (h : wpQuiet P ops C Q (⟨d, .load T x, ty, pos, af, g⟩ :: rest) a) : wpQuiet P ops C Q (⟨d, .load T x, ty, pos, af, g⟩ :: rest) a := h
theorem onq_convert (x : Operand) {d src dst ty pos af g} (h : wpQuiet P ops C Q (⟨d, .convert src dst x, ty, pos, af, g⟩ :: rest) a) : wpQuiet P ops C Q (⟨d, .convert src dst x, ty, pos, af, g⟩ :: rest) a := h
end
end Go.Th

/-! ### Part -/
namespace Go.Th
open Go.RowKit
/-- A part: its ends, where its ranks lie, and its ranks. -/
structure Pt where
  fr : Int
  «to» : Int
  A : Option Addr
  n : Nat
  c : Nat
  rk : List Int
def Pt.cs (p : Pt) : List Value := [.int .u32 p.fr, .int .u32 p.to, .slice p.A p.n p.c]
theorem Pt.cs_length (p : Pt) : p.cs.length = 3 := rfl
structure Pt.Ok (p : Pt) : Prop where
  fr : 0 ≤ p.fr ∧ p.fr ≤ 4294967295
  «to» : 0 ≤ p.to ∧ p.to ≤ 4294967295
theorem Pt.one (p : Pt) : ∀ u ∈ p.cs, u.oneCell' = true := by
  intro u hu
  simp only [Pt.cs, List.mem_cons, List.not_mem_nil, or_false] at hu
  rcases hu with rfl | rfl | rfl <;> rfl
def meetF : Int → List Pt → Bool
  | x, [] => decide (x = 4294967296)
  | x, p :: ps => decide (p.fr = x) && (decide (p.fr ≤ p.to) && meetF (p.to + 1) ps)
def pmeet (ps : List Pt) : Int := if meetF 0 ps = true then 0 else 15
def nextOf (ps : List Pt) : Nat → Int
  | 0 => 0
  | k + 1 => match ps[k]? with
    | some p => p.to + 1
    | none => 0
theorem nextOf_succ {ps : List Pt} {k : Nat} {p : Pt} (h : ps[k]? = some p) : nextOf ps (k + 1) = p.to + 1 := by simp [nextOf, h]
theorem drop_cons {α : Type} {ps : List α} {k : Nat} {p : α} (h : ps[k]? = some p) : ps.drop k = p :: ps.drop (k + 1) := by
  obtain ⟨hl, e⟩ := List.getElem?_eq_some_iff.1 h
  rw [List.drop_eq_getElem_cons hl, e]
/-- One step: on, or not. -/
theorem meet_on {ps : List Pt} {k : Nat} {p : Pt} (h : ps[k]? = some p) (h1 : p.fr = nextOf ps k) (h2 : p.fr ≤ p.to) : meetF (nextOf ps k) (ps.drop k) = meetF (nextOf ps (k + 1)) (ps.drop (k + 1)) := by
  rw [drop_cons h, nextOf_succ h]
  show (decide (p.fr = nextOf ps k) && (decide (p.fr ≤ p.to) && meetF (p.to + 1) _)) = _
  rw [decide_eq_true h1, decide_eq_true h2]
  rfl
theorem meet_no {ps : List Pt} {k : Nat} {p : Pt} (h : ps[k]? = some p) (h1 : p.fr ≠ nextOf ps k ∨ p.to < p.fr) : meetF (nextOf ps k) (ps.drop k) = false := by
  rw [drop_cons h]
  simp only [meetF]
  rcases h1 with h1 | h1
  · simp [h1]
  · have : ¬ p.fr ≤ p.to := by omega
    simp [this]
theorem meet_last : ∀ (ps : List Pt) (x : Int) (p : Pt), meetF x ps = true → ps.getLast? = some p → p.to = 4294967295
  | [], _, _, _, h => by simp at h
  | [q], x, p, h, hl => by
    simp at hl
    subst hl
    simp only [meetF, Bool.and_eq_true, decide_eq_true_eq] at h
    omega
  | q :: r :: ps, x, p, h, hl => by
    simp only [meetF, Bool.and_eq_true] at h
    exact meet_last (r :: ps) (q.to + 1) p (by simp only [meetF, Bool.and_eq_true]; exact h.2.2) (by rw [List.getLast?_cons_cons] at hl; exact hl)
theorem meet_first {ps : List Pt} {p : Pt} (h : ps[0]? = some p) (hf : p.fr ≠ 0) : meetF 0 ps = false := by
  cases ps with
  | nil => simp at h
  | cons q ps => simp at h; subst h; simp [meetF, hf]
theorem meet_end {ps : List Pt} {n : Nat} {p : Pt} (hn : ps.length = n + 1) (h : ps[n]? = some p) (hf : p.to ≠ 4294967295) : meetF 0 ps = false := by
  cases hm : meetF 0 ps with
  | false => rfl
  | true => exact absurd (meet_last ps 0 p hm (by rw [List.getLast?_eq_getElem?, hn]; exact h)) hf
/-- A number that is no node. -/
def outs (nodes x : Int) : Bool := decide (x < 0) || decide (nodes ≤ x)
def ranks (nodes : Int) : List Pt → Int
  | [] => 0
  | p :: ps => if (p.rk.length : Int) ≠ nodes then 1 else if p.rk.any (outs nodes) = true then 16 else ranks nodes ps
def cfree (ps : List Pt) (d : Int) (tr : List Int) (nodes : Int) : Int :=
  if d ≠ 0 ∨ tr.length ≠ 0 then 3 else if 8193 < ps.length then 12 else if meetF 0 ps = false then 15 else ranks nodes ps
/-- A trace: unlike nodes, the least one first. -/
def trgo (seen : List Int) (first : Int) : List Int → Int
  | [] => 0
  | x :: l => if x ∈ seen ∨ x < first then 17 else trgo (seen ++ [x]) first l
def trfirst : List Int → Int
  | [] => 0
  | x :: _ => x
def cloops (ps : List Pt) (tr : List Int) (nodes : Int) : Int :=
  if ps.length ≠ 0 then 3 else if tr.length = 0 ∨ nodes < tr.length then 12 else if tr.any (outs nodes) = true then 10 else trgo [] (trfirst tr) tr
def cmay (v : Int) (ps : List Pt) (d : Int) (tr : List Int) (nodes : Int) : Int :=
  if v = 1 then cfree ps d tr nodes else if v = 2 then cloops ps tr nodes else 9
theorem ranks_on {ps : List Pt} {nodes : Int} {k : Nat} {p : Pt} (h : ps[k]? = some p) (h1 : (p.rk.length : Int) = nodes) (h2 : p.rk.any (outs nodes) = false) : ranks nodes (ps.drop k) = ranks nodes (ps.drop (k + 1)) := by
  rw [drop_cons h]
  simp only [ranks]
  rw [if_neg (by omega), if_neg (by simp [h2])]
theorem ranks_size {ps : List Pt} {nodes : Int} {k : Nat} {p : Pt} (h : ps[k]? = some p) (h1 : (p.rk.length : Int) ≠ nodes) : ranks nodes (ps.drop k) = 1 := by
  rw [drop_cons h]
  simp only [ranks]
  rw [if_pos h1]
theorem ranks_out {ps : List Pt} {nodes : Int} {k : Nat} {p : Pt} (h : ps[k]? = some p) (h1 : (p.rk.length : Int) = nodes) (h2 : p.rk.any (outs nodes) = true) : ranks nodes (ps.drop k) = 16 := by
  rw [drop_cons h]
  simp only [ranks]
  rw [if_neg (by omega), if_pos h2]
theorem any_snoc {α : Type} {l : List α} {k : Nat} {x : α} (h : l[k]? = some x) (f : α → Bool) : (l.take (k + 1)).any f = ((l.take k).any f || f x) := by
  rw [List.take_add_one, h]
  simp
end Go.Th

/-! ### CertTracesLaw -/
namespace Go.Th
theorem trgo_vals : ∀ (l s : List Int) (f : Int), trgo s f l = 0 ∨ trgo s f l = 17
  | [], s, f => .inl rfl
  | x :: l, s, f => by
    simp only [trgo]
    by_cases h : x ∈ s ∨ x < f
    · rw [if_pos h]; exact .inr rfl
    · rw [if_neg h]; exact trgo_vals l (s ++ [x]) f
theorem trgo_zero : ∀ (l s : List Int) (f : Int), trgo s f l = 0 ↔ ((∀ x ∈ l, x ∉ s ∧ f ≤ x) ∧ l.Nodup)
  | [], s, f => by simp [trgo]
  | x :: l, s, f => by
    simp only [trgo]
    by_cases h : x ∈ s ∨ x < f
    · rw [if_pos h]
      constructor
      · intro e; exact absurd e (by decide)
      · intro e
        have := e.1 x (by simp)
        rcases h with h | h
        · exact absurd h this.1
        · omega
    · rw [if_neg h, trgo_zero l (s ++ [x]) f]
      simp only [List.mem_append, not_or, List.nodup_cons, List.mem_cons]
      constructor
      · intro ⟨e1, e2⟩
        refine ⟨fun y hy => ?_, fun hx => (e1 x hx).1.2.1 rfl, e2⟩
        rcases hy with rfl | hy
        · exact ⟨fun hh => h (.inl hh), by have : ¬ y < f := fun hh => h (.inr hh); omega⟩
        · exact ⟨(e1 y hy).1.1, (e1 y hy).2⟩
      · intro ⟨e1, e2, e3⟩
        exact ⟨fun y hy => ⟨⟨(e1 y (.inr hy)).1, fun hh => e2 (by rw [← hh]; exact hy), by simp⟩, (e1 y (.inr hy)).2⟩, e3⟩
/-- F, F + 1, .. : M of them. -/
def tr0 (F M : Nat) : List Int := (List.range M).map fun i => ((F + i : Nat) : Int)
theorem tr0_succ (F M : Nat) : tr0 F (M + 1) = tr0 F M ++ [((F + M : Nat) : Int)] := by simp [tr0, List.range_succ]
theorem tr0_length (F M : Nat) : (tr0 F M).length = M := by simp [tr0]
theorem tr0_mem {F M : Nat} {x : Int} (h : x ∈ tr0 F M) : (F : Int) ≤ x ∧ x < (F + M : Nat) := by
  obtain ⟨i, hi, rfl⟩ := List.mem_map.1 h
  have := List.mem_range.1 hi
  omega
theorem tr0_nodup (F M : Nat) : (tr0 F M).Nodup := by
  unfold tr0
  rw [List.nodup_iff_pairwise_ne, List.pairwise_map]
  exact List.nodup_range.imp (fun h e => h (by omega))
theorem tr0_first {F M : Nat} (h : 0 < M) : trfirst (tr0 F M) = F := by
  obtain ⟨m, rfl⟩ : ∃ m, M = m + 1 := ⟨M - 1, by omega⟩
  simp [tr0, List.range_succ_eq_map, trfirst]
theorem any_outs_no {l : List Int} {N : Int} (h : ∀ x ∈ l, 0 ≤ x ∧ x < N) : l.any (outs N) = false := by
  rw [List.any_eq_false]
  intro x hx
  have := h x hx
  unfold outs
  rw [decide_eq_false (by omega), decide_eq_false (by omega)]
  simp
theorem any_outs_yes {l : List Int} {N x : Int} (hx : x ∈ l) (h : N ≤ x) : l.any (outs N) = true := by
  rw [List.any_eq_true]
  exact ⟨x, hx, by unfold outs; rw [decide_eq_true h]; simp⟩
/-- What a trace is at each stage. -/
def TSt (N M F : Nat) (v : Int) (np : Nat) (tr : List Int) : Prop :=
  (v = 0 ∧ np = 0 ∧ tr = tr0 F M) ∨ (v = 17 ∧ np = 0 ∧ 1 < M ∧ tr = (tr0 F M).set (M - 1) F) ∨ (v = 10 ∧ np = 0 ∧ tr.length = M ∧ ∃ x ∈ tr, (N : Int) ≤ x) ∨ (v = 12 ∧ np = 0 ∧ tr.length = N + 1) ∨ (v = 3 ∧ np = 1)
theorem TSt.ok {N M F : Nat} {v : Int} {np : Nat} {tr : List Int} (h : TSt N M F v np tr) (hM : 1 ≤ M) (hF : F + M ≤ N) (ps : List Pt) (hp : ps.length = np) (d : Int) : cmay 2 ps d tr N = v := by
  unfold cmay
  rw [if_neg (by decide), if_pos rfl]
  unfold cloops
  rcases h with ⟨rfl, rfl, rfl⟩ | ⟨rfl, rfl, h1, rfl⟩ | ⟨rfl, rfl, h1, x, hx, h2⟩ | ⟨rfl, rfl, h1⟩ | ⟨rfl, rfl⟩
  · rw [if_neg (by omega), tr0_length, if_neg (by omega), any_outs_no (fun x hx => by have := tr0_mem hx; omega), if_neg (by simp), tr0_first (by omega)]
    rw [trgo_zero]
    exact ⟨fun x hx => ⟨by simp, (tr0_mem hx).1⟩, tr0_nodup F M⟩
  · have hm : ∀ x ∈ (tr0 F M).set (M - 1) (F : Int), (F : Int) ≤ x ∧ x < (F + M : Nat) := fun x hx => by
      rcases List.mem_or_eq_of_mem_set hx with hx | rfl
      · exact tr0_mem hx
      · omega
    rw [if_neg (by omega), List.length_set, tr0_length, if_neg (by omega), any_outs_no (fun x hx => by have := hm x hx; omega), if_neg (by simp)]
    rcases trgo_vals ((tr0 F M).set (M - 1) F) [] (trfirst ((tr0 F M).set (M - 1) F)) with h | h
    · exfalso
      have hnd := ((trgo_zero _ _ _).1 h).2
      have e0 : ((tr0 F M).set (M - 1) (F : Int))[0]? = some (F : Int) := by
        rw [List.getElem?_set_ne (by omega)]
        simp [tr0, List.getElem?_range (show 0 < M by omega)]
      have e1 : ((tr0 F M).set (M - 1) (F : Int))[M - 1]? = some (F : Int) := by
        rw [List.getElem?_set_self (by rw [tr0_length]; omega)]
      have := (List.getElem?_inj (i := 0) (j := M - 1) (by rw [List.length_set, tr0_length]; omega) hnd).1 (e0.trans e1.symm)
      omega
    · exact h
  · rw [if_neg (by omega), h1, if_neg (by omega), any_outs_yes hx h2, if_pos rfl]
  · rw [if_neg (by omega), h1, if_pos (by omega)]
  · rw [if_pos (by omega)]
/-- May it be of fewer nodes? -/
theorem tr0_more {F M : Nat} (hM : 1 ≤ M) (ps : List Pt) (hp : ps.length = 0) (d : Int) : cmay 2 ps d (tr0 F M) ((F : Int) + M) = 0 := by
  have := TSt.ok (N := F + M) (M := M) (F := F) (v := 0) (np := 0) (tr := tr0 F M) (.inl ⟨rfl, rfl, rfl⟩) hM (Nat.le_refl _) ps hp d
  rw [← this]
  congr 1
theorem tr0_less {F M : Nat} (hM : 1 ≤ M) (ps : List Pt) (hp : ps.length = 0) (d : Int) : (cmay 2 ps d (tr0 F M) ((F : Int) + M - 1) != 0) = true := by
  have hl : ((F + (M - 1) : Nat) : Int) ∈ tr0 F M := List.mem_map.2 ⟨M - 1, List.mem_range.2 (by omega), rfl⟩
  unfold cmay
  rw [if_neg (by decide), if_pos rfl]
  unfold cloops
  rw [if_neg (by omega), tr0_length]
  by_cases h : (F : Int) + M - 1 < M
  · rw [if_pos (.inr h)]; rfl
  · rw [if_neg (by omega), any_outs_yes hl (by omega), if_pos rfl]; rfl
end Go.Th

/-! ### CertFitLaw -/
set_option linter.unusedVariables false
namespace Go.Th
open Go.RowKit
theorem tmod_fit (x n : Int) (hn : 0 < n) : (x.tmod n + n).tmod n = x % n := by
  rcases Int.le_total 0 x with h | h
  · rw [Int.tmod_eq_emod_of_nonneg h, Int.tmod_eq_emod_of_nonneg (by have := Int.emod_nonneg x (show n ≠ 0 by omega); omega), Int.add_emod_right, Int.emod_emod]
  · obtain ⟨y, rfl⟩ : ∃ y, x = -y := ⟨-x, by omega⟩
    have hy : 0 ≤ y := by omega
    have h1 := Int.emod_lt_of_pos y hn
    rw [Int.neg_tmod, Int.tmod_eq_emod_of_nonneg hy, Int.tmod_eq_emod_of_nonneg (by omega)]
    have e : -(y % n) + n = -y + n * (y / n + 1) := by
      have := Int.mul_ediv_add_emod y n
      rw [Int.mul_add, Int.mul_one]
      omega
    rw [e, Int.add_mul_emod_self_left]
theorem tmod_lim (x n : Int) (hn : 0 < n) : -n < x.tmod n ∧ x.tmod n < n := by
  rcases Int.le_total 0 x with h | h
  · rw [Int.tmod_eq_emod_of_nonneg h]
    have := Int.emod_nonneg x (show n ≠ 0 by omega)
    have := Int.emod_lt_of_pos x hn
    omega
  · obtain ⟨y, rfl⟩ : ∃ y, x = -y := ⟨-x, by omega⟩
    rw [Int.neg_tmod, Int.tmod_eq_emod_of_nonneg (by omega)]
    have := Int.emod_nonneg y (show n ≠ 0 by omega)
    have := Int.emod_lt_of_pos y hn
    omega
def fstep (n : Int) (out : List Int) (x : Int) : List Int := if x % n ∈ out ∨ (out ≠ [] ∧ x % n ≤ trfirst out) then out else out ++ [x % n]
def ftr (n : Int) (l : List Int) : List Int := l.foldl (fstep n) []
/-- What Fit goes through. -/
def ftin (tr : List Int) : List Int := if tr = [] then [0] else tr
structure FTr (n : Int) (out : List Int) : Prop where
  rng : ∀ y ∈ out, 0 ≤ y ∧ y < n
  nodup : out.Nodup
  least : ∀ y ∈ out, trfirst out ≤ y
theorem FTr.nil (n : Int) : FTr n [] := ⟨by simp, by simp, by simp⟩
theorem trfirst_snoc {out : List Int} (h : out ≠ []) (x : Int) : trfirst (out ++ [x]) = trfirst out := by
  cases out with
  | nil => exact absurd rfl h
  | cons y r => rfl
theorem FTr.step {n : Int} (hn : 0 < n) {out : List Int} (h : FTr n out) (x : Int) : FTr n (fstep n out x) := by
  unfold fstep
  split
  · exact h
  · rename_i hc
    have hm : x % n ∉ out := fun h => hc (.inl h)
    have hr : 0 ≤ x % n ∧ x % n < n := ⟨Int.emod_nonneg x (by omega), Int.emod_lt_of_pos x hn⟩
    refine ⟨fun y hy => ?_, ?_, fun y hy => ?_⟩
    · rcases List.mem_append.1 hy with hy | hy
      · exact h.rng y hy
      · rw [List.mem_singleton.1 hy]; exact hr
    · rw [List.nodup_append]
      refine ⟨h.nodup, by simp, fun a ha b hb e => ?_⟩
      rw [List.mem_singleton.1 hb] at e
      exact hm (e ▸ ha)
    · by_cases he : out = []
      · subst he
        simp only [List.nil_append, List.mem_singleton] at hy
        subst hy
        exact Int.le_refl _
      · rw [trfirst_snoc he]
        rcases List.mem_append.1 hy with hy | hy
        · exact h.least y hy
        · rw [List.mem_singleton.1 hy]
          rcases Int.le_total (x % n) (trfirst out) with g | g
          · exact absurd (.inr ⟨he, g⟩) hc
          · exact g
theorem fold_tr {n : Int} (hn : 0 < n) : ∀ (l out : List Int), FTr n out → FTr n (l.foldl (fstep n) out)
  | [], out, h => h
  | x :: l, out, h => fold_tr hn l _ (h.step hn x)
theorem fstep_ne (n : Int) (out : List Int) (x : Int) : fstep n out x ≠ [] := by
  unfold fstep
  split
  · rename_i h
    intro e
    subst e
    simp at h
  · simp
theorem fold_ne (n : Int) : ∀ (l out : List Int), (out ≠ [] ∨ l ≠ []) → l.foldl (fstep n) out ≠ []
  | [], out, h => by simpa using h
  | x :: l, out, _ => fold_ne n l _ (.inl (fstep_ne n out x))
theorem range_len : ∀ (n : Nat) (l : List Int), l.Nodup → (∀ y ∈ l, 0 ≤ y ∧ y < (n : Int)) → l.length ≤ n
  | 0, l, _, h => by
    cases l with
    | nil => simp
    | cons y r => have := h y (by simp); omega
  | n + 1, l, hd, h => by
    have ih := range_len n (l.erase (n : Int)) (hd.erase _) (fun y hy => by
      rw [hd.mem_erase_iff] at hy
      have := h y hy.2
      have := hy.1
      omega)
    rw [List.length_erase] at ih
    split at ih <;> omega
theorem FTr.len {n : Nat} {out : List Int} (h : FTr n out) : out.length ≤ n := range_len n out h.nodup h.rng
theorem FTr.may {n : Nat} {out : List Int} (h : FTr n out) (hne : out ≠ []) (d : Int) : cmay 2 [] d out n = 0 := by
  unfold cmay
  rw [if_neg (by omega), if_pos rfl]
  unfold cloops
  have := h.len
  have hl : out.length ≠ 0 := fun e => hne (List.eq_nil_of_length_eq_zero e)
  rw [if_neg (by simp), if_neg (by omega), if_neg (by rw [any_outs_no h.rng]; simp)]
  rw [trgo_zero]
  exact ⟨fun x hx => ⟨by simp, h.least x hx⟩, h.nodup⟩
def ftrace (n : Int) (tr : List Int) : List Int := ftr n (ftin tr)
theorem ftrace_ok {n : Int} (hn : 0 < n) (tr : List Int) : FTr n (ftrace n tr) ∧ ftrace n tr ≠ [] :=
  ⟨fold_tr hn _ _ (FTr.nil n), fold_ne n _ _ (.inr (by unfold ftin; split <;> simp_all))⟩
/-- Which nodes are in a trace. -/
def marks (n : Nat) (out : List Int) : List Bool := (List.range n).map fun (j : Nat) => decide ((j : Int) ∈ out)
theorem marks_len (n : Nat) (out : List Int) : (marks n out).length = n := by simp [marks]
theorem marks_get {n : Nat} {out : List Int} {j : Nat} (h : j < n) : (marks n out)[j]? = some (decide ((j : Int) ∈ out)) := by simp [marks, h]
theorem marks_nil (n : Nat) : marks n [] = List.replicate n false := by
  unfold marks
  rw [List.eq_replicate_iff]
  refine ⟨by simp, fun b hb => ?_⟩
  obtain ⟨j, _, rfl⟩ := List.mem_map.1 hb
  simp
theorem marks_set {n : Nat} {out : List Int} {j : Nat} (h : j < n) : (marks n out).set j true = marks n (out ++ [(j : Int)]) := by
  refine List.ext_getElem? fun t => ?_
  rw [List.getElem?_set]
  by_cases ht : t < n
  · rw [marks_get ht, marks_get ht]
    by_cases e : j = t
    · subst e; simp [marks_len, h]
    · rw [if_neg e]
      have : ¬ (t : Int) = j := by omega
      simp [this]
  · rw [List.getElem?_eq_none (by rw [marks_len]; omega), List.getElem?_eq_none (by rw [marks_len]; omega)]
    split
    · rename_i e; simp [marks_len]; omega
    · rfl
theorem meet_from (ps : List Pt) : ∀ (m k : Nat), k + m = ps.length → (meetF (nextOf ps k) (ps.drop k) = true ↔ (∀ j p, k ≤ j → ps[j]? = some p → p.fr = nextOf ps j ∧ p.fr ≤ p.to) ∧ nextOf ps ps.length = 4294967296)
  | 0, k, h => by
    have hk : k = ps.length := by omega
    subst hk
    rw [List.drop_length]
    simp only [meetF, decide_eq_true_eq]
    refine ⟨fun e => ⟨fun j p hj hp => ?_, e⟩, fun e => e.2⟩
    rw [List.getElem?_eq_none hj] at hp
    cases hp
  | m + 1, k, h => by
    have hk : k < ps.length := by omega
    have hp : ps[k]? = some ps[k] := List.getElem?_eq_getElem hk
    by_cases hc : ps[k].fr = nextOf ps k ∧ ps[k].fr ≤ ps[k].to
    · rw [meet_on hp hc.1 hc.2, meet_from ps m (k + 1) (by omega)]
      refine ⟨fun ⟨h1, h2⟩ => ⟨fun j p hj hpj => ?_, h2⟩, fun ⟨h1, h2⟩ => ⟨fun j p hj hpj => h1 j p (by omega) hpj, h2⟩⟩
      by_cases e : j = k
      · subst e; rw [hp] at hpj; injection hpj with hpj; subst hpj; exact hc
      · exact h1 j p (by omega) hpj
    · rw [meet_no hp (by omega)]
      refine ⟨fun h => (by cases h), fun ⟨h1, _⟩ => absurd (h1 k _ (Nat.le_refl _) hp) hc⟩
theorem meet_iff (ps : List Pt) : meetF 0 ps = true ↔ (∀ j p, ps[j]? = some p → p.fr = nextOf ps j ∧ p.fr ≤ p.to) ∧ nextOf ps ps.length = 4294967296 := by
  have := meet_from ps ps.length 0 (by omega)
  rw [List.drop_zero] at this
  rw [show (0 : Int) = nextOf ps 0 from rfl, this]
  exact ⟨fun ⟨h1, h2⟩ => ⟨fun j p => h1 j p (Nat.zero_le _), h2⟩, fun ⟨h1, h2⟩ => ⟨fun j p _ => h1 j p, h2⟩⟩
def pkey (p : Pt) : Int × Int × List Int := (p.fr, p.to, p.rk)
def endOf (l : List Int) (i : Nat) : Int := if i + 1 < l.length then l.getD (i + 1) 0 - 1 else 4294967295
def frk (rs : List Int) (n at_ : Nat) : Int := if rs = [] then 0 else (rs.getD (at_ % rs.length) 0) % n
def franks (rs : List Int) (n i : Nat) : List Int := (List.range n).map fun k => frk rs n (i * n + k)
def fpart (l rs : List Int) (n i : Nat) : Int × Int × List Int := (l.getD i 0, endOf l i, franks rs n i)
def fparts (l rs : List Int) (n : Nat) : List (Int × Int × List Int) := (List.range l.length).map (fpart l rs n)
/-- What Fit's parts are made of. -/
def fcuts (ps : List Pt) : List Int := pfit ((ps.take 12).map (·.fr))
def franksIn (ps : List Pt) : List Int := (ps.take 12).flatMap (·.rk)
theorem frk_bd (rs : List Int) (n at_ : Nat) (hn : 0 < n) : 0 ≤ frk rs n at_ ∧ frk rs n at_ < n := by
  unfold frk
  split
  · omega
  · exact ⟨Int.emod_nonneg _ (by omega), Int.emod_lt_of_pos _ (by omega)⟩
theorem franks_len (rs : List Int) (n i : Nat) : (franks rs n i).length = n := by simp [franks]
structure FPs (l rs : List Int) (n : Nat) (ps : List Pt) : Prop where
  key : ps.map pkey = fparts l rs n
  row : Row0 l
  pos : 0 < n
section
variable {l rs : List Int} {n : Nat} {ps : List Pt} (h : FPs l rs n ps)
include h
theorem FPs.len : ps.length = l.length := by
  have := congrArg List.length h.key
  simpa [fparts] using this
theorem FPs.get {k : Nat} {p : Pt} (hp : ps[k]? = some p) : k < l.length ∧ p.fr = l.getD k 0 ∧ p.to = endOf l k ∧ p.rk = franks rs n k := by
  have hk : k < l.length := by rw [← h.len]; exact (List.getElem?_eq_some_iff.1 hp).1
  have h1 : (ps.map pkey)[k]? = some (pkey p) := by rw [List.getElem?_map, hp]; rfl
  rw [h.key] at h1
  have h2 : (fparts l rs n)[k]? = some (fpart l rs n k) := by simp [fparts, hk]
  rw [h2] at h1
  injection h1 with h1
  unfold pkey fpart at h1
  injection h1 with a1 a2
  injection a2 with a2 a3
  exact ⟨hk, a1.symm, a2.symm, a3.symm⟩
theorem FPs.pos_len : 0 < l.length := by
  rcases Nat.eq_zero_or_pos l.length with e | e
  · have := h.row.head
    rw [List.eq_nil_of_length_eq_zero e] at this
    cases this
  · exact e
omit h in
theorem row_at {l : List Int} (hr : Row0 l) {i : Nat} (hi : i < l.length) : l[i]? = some (l.getD i 0) ∧ 0 ≤ l.getD i 0 ∧ l.getD i 0 ≤ 4294967295 := by
  have e : l[i]? = some (l.getD i 0) := by simp [List.getElem?_eq_getElem hi]
  exact ⟨e, hr.rng _ (List.mem_of_getElem? e)⟩
omit h in
theorem row_lt {l : List Int} (hr : Row0 l) {i j : Nat} (hij : i < j) (hj : j < l.length) : l.getD i 0 < l.getD j 0 := by
  have := List.pairwise_iff_getElem.1 hr.up i j (by omega) hj hij
  simpa [List.getElem?_eq_getElem hj, List.getElem?_eq_getElem (show i < l.length by omega)] using this
omit h in
theorem row_zero {l : List Int} (hr : Row0 l) : l.getD 0 0 = 0 := by
  have := hr.head
  simp [this]
omit h in
theorem endOf_bd {l : List Int} (hr : Row0 l) {i : Nat} (hi : i < l.length) : l.getD i 0 ≤ endOf l i ∧ endOf l i ≤ 4294967295 := by
  have h0 := row_at hr hi
  unfold endOf
  split
  · rename_i h1
    have : l.getD i 0 < l.getD (i + 1) 0 := row_lt hr (by omega) h1
    have := row_at hr h1
    omega
  · omega
theorem FPs.next {k : Nat} (hk : k < l.length) : nextOf ps k = l.getD k 0 := by
  cases k with
  | zero => exact (row_zero h.row).symm
  | succ k =>
    have hp : ps[k]? = some (ps[k]'(by rw [h.len]; omega)) := List.getElem?_eq_getElem _
    rw [nextOf_succ hp, (h.get hp).2.2.1]
    unfold endOf
    rw [if_pos hk]
    omega
theorem FPs.last : nextOf ps ps.length = 4294967296 := by
  have := h.pos_len
  obtain ⟨m, hm⟩ : ∃ m, ps.length = m + 1 := ⟨ps.length - 1, by rw [h.len]; omega⟩
  have hp : ps[m]? = some (ps[m]'(by omega)) := List.getElem?_eq_getElem _
  rw [hm, nextOf_succ hp, (h.get hp).2.2.1]
  unfold endOf
  rw [if_neg (by rw [← h.len]; omega)]
  rfl
theorem FPs.meet : meetF 0 ps = true := by
  rw [meet_iff]
  refine ⟨fun j p hp => ?_, h.last⟩
  obtain ⟨h1, h2, h3, _⟩ := h.get hp
  rw [h.next h1, h2, h3]
  exact ⟨rfl, (endOf_bd h.row h1).1⟩
theorem FPs.ok : ∀ p ∈ ps, p.Ok := by
  intro p hp
  obtain ⟨k, hk⟩ := List.getElem?_of_mem hp
  obtain ⟨h1, h2, h3, _⟩ := h.get hk
  have a := row_at h.row h1
  have b := endOf_bd h.row h1
  exact ⟨by rw [h2]; exact a.2, by rw [h3]; exact ⟨by omega, b.2⟩⟩
theorem FPs.rkLen : ∀ p ∈ ps, p.rk.length = n := by
  intro p hp
  obtain ⟨k, hk⟩ := List.getElem?_of_mem hp
  rw [(h.get hk).2.2.2, franks_len]
theorem FPs.rkIn : ∀ p ∈ ps, ∀ x ∈ p.rk, 0 ≤ x ∧ x < (n : Int) := by
  intro p hp x hx
  obtain ⟨k, hk⟩ := List.getElem?_of_mem hp
  rw [(h.get hk).2.2.2] at hx
  obtain ⟨j, _, rfl⟩ := List.mem_map.1 hx
  exact frk_bd _ _ _ h.pos
omit h in
theorem ranks_all {n : Nat} : ∀ (ps : List Pt), (∀ p ∈ ps, p.rk.length = n) → (∀ p ∈ ps, ∀ x ∈ p.rk, 0 ≤ x ∧ x < (n : Int)) → ranks n ps = 0
  | [], _, _ => rfl
  | p :: ps, h1, h2 => by
    simp only [ranks]
    rw [if_neg (by have := h1 p (by simp); omega), if_neg (by rw [any_outs_no (h2 p (by simp))]; simp)]
    exact ranks_all ps (fun q hq => h1 q (by simp [hq])) (fun q hq => h2 q (by simp [hq]))
theorem FPs.may (hl : l.length ≤ 31) : cmay 1 ps 0 [] n = 0 := by
  unfold cmay
  rw [if_pos rfl]
  unfold cfree
  have := h.len
  rw [if_neg (by simp), if_neg (by omega), if_neg (by rw [h.meet]; simp)]
  exact ranks_all ps h.rkLen h.rkIn
end
end Go.Th

/-! ### PartMem -/
namespace Go.Th
open Go.RowKit
set_option linter.unusedVariables false
section
variable {P : Program} {ops : Array Oper} {rest : List Oper} {o : Oper} {a : Act} {Q : Exit → Act → World → Prop} {w : World}
theorem wpt_load (hw : Region.wanted o (yielded ops a.tmps) = true) (T : TypeId) (x : Operand) (ho : o.op = .load T x) (st : St P T 3) {b j : Nat} {r : Pt} (hx : a.eval x = .pointer (some ⟨b, j, none⟩)) (hc : Hid (∀ i v, r.cs[i]? = some v → w.cell? ⟨b, j + i, none⟩ = some v))
    (h : wpList P ops Q rest (a.put o.dst (.agg #[.int .u32 r.fr, .int .u32 r.to, .slice r.A r.n r.c])) w) : wpList P ops Q (o :: rest) a w :=
  wm_load hw T x ho st hx (Pt.cs_length r) hc.out h
theorem wpt_box (hw : Region.wanted o (yielded ops a.tmps) = true) (T : TypeId) (x : Operand) (ho : o.op = .load T x) (st : St P T 3) {g : Nat} {t : TypeId} {r : Pt} (hx : a.eval x = .pointer (some ⟨g, 0, none⟩)) (hb : Box w g t r.cs.toArray)
    (h : wpList P ops Q rest (a.put o.dst (.agg #[.int .u32 r.fr, .int .u32 r.to, .slice r.A r.n r.c])) w) : wpList P ops Q (o :: rest) a w :=
  wb_load hw T x ho st hx hb rfl h
theorem wpt_store (hw : Region.wanted o (yielded ops a.tmps) = true) (T : TypeId) (x y : Operand) (ho : o.op = .store T x y) (st : St P T 3) {g : Nat} {t : TypeId} {r s : Pt} (hx : a.eval x = .pointer (some ⟨g, 0, none⟩)) (hy : a.eval y = .agg #[.int .u32 s.fr, .int .u32 s.to, .slice s.A s.n s.c])
    (hb : Box w g t r.cs.toArray) (h : ∀ w', Box w' g t s.cs.toArray → w.grownBy w' (some g) → wpList P ops Q rest (a.put o.dst undef) w') : wpList P ops Q (o :: rest) a w :=
  wb_store hw T x y ho st hx hy hb rfl rfl (by simp [Value.oneCell']) h
end
def Pt.zero : Pt := ⟨0, 0, none, 0, 0, []⟩
theorem Box.part {w : World} {g : Nat} {t : TypeId} {r : Pt} (h : Box w g t r.cs.toArray) : w.cell? ⟨g, 0, none⟩ = some (.int .u32 r.fr) ∧ w.cell? ⟨g, 1, none⟩ = some (.int .u32 r.to) ∧ w.cell? ⟨g, 2, none⟩ = some (.slice r.A r.n r.c) :=
  ⟨h.cell 0, h.cell 1, h.cell 2⟩
theorem Box.partC {w : World} {g : Nat} {t : TypeId} {r : Pt} (h : Box w g t r.cs.toArray) : (∀ q : Step w.heap.size w, q.w.cell? ⟨g, 0, none⟩ = some (.int .u32 r.fr)) ∧ (∀ q : Step w.heap.size w, q.w.cell? ⟨g, 1, none⟩ = some (.int .u32 r.to)) ∧ (∀ q : Step w.heap.size w, q.w.cell? ⟨g, 2, none⟩ = some (.slice r.A r.n r.c)) :=
  ⟨fun q => (h.step q.h).part.1, fun q => (h.step q.h).part.2.1, fun q => (h.step q.h).part.2.2⟩
section
variable {P : Program} {ops : Array Oper} {rest : List Oper} {o : Oper} {a : Act} {C : World → Prop} {Q : Act → Prop} {α : Type} {f : α → List Value} {k : Nat}
/-- s[i] in a quiet walk: the place. -/
theorem wqm_at (hf : ∀ x, (f x).length = k) (hw : Region.wanted o (yielded ops a.tmps) = true) (T : TypeId) (s i : Operand) (ho : o.op = .indexAddr T s i) {E bytes : Nat} {z : Value} (el : ElM P T E z bytes k)
    {A : Option Addr} {n c : Nat} {kk : IntKind} {I : Int} (hs : a.eval s = .slice A n c) (hi : a.eval i = .int kk I) (h0 : 0 ≤ I) (h1 : I < n) {w0 : World} (hC0 : C w0)
    {B : Nat} {xs : List α} (hr : ∀ w, C w → RdM f w B A n c xs)
    (h : ∀ (b j : Nat) (x : α), Hid (xs[I.toNat]? = some x) → Hid (∀ w, C w → ∀ i v, (f x)[i]? = some v → w.cell? ⟨b, j + i, none⟩ = some v) → wpQuiet P ops C Q rest (a.put o.dst (.pointer (some ⟨b, j, none⟩)))) :
    wpQuiet P ops C Q (o :: rest) a := by
  have hl : I.toNat < xs.length := by have := (hr w0 hC0).len; omega
  obtain ⟨b, off, hA, hb, hc⟩ := (hr w0 hC0).cells hf (List.getElem?_eq_getElem hl) el.pos
  subst hA
  refine wq_run hw (v := .pointer (some ⟨b, off + I.toNat * k, none⟩)) (fun w hC => ?_) ?_
  · have := run_indexAt (P := P) (w := w) T el.ht (el.size w) ⟨b, off, none⟩ n c kk I h0 h1
    rw [Addr.add_lit] at this
    simp only [execOp, ho, hs, hi, Sem.run_bind, this, Result.andThen, Sem.run_pure]
  · refine h b _ xs[I.toNat] (List.getElem?_eq_getElem hl) fun w hC => ?_
    obtain ⟨b', off', hA', _, hc'⟩ := (hr w hC).cells hf (List.getElem?_eq_getElem hl) el.pos
    injection hA' with hA'
    injection hA' with e1 e2
    subst e1 e2
    exact hc'
theorem wqpt_load (hw : Region.wanted o (yielded ops a.tmps) = true) (T : TypeId) (x : Operand) (ho : o.op = .load T x) (st : St P T 3) {b j : Nat} {r : Pt} (hx : a.eval x = .pointer (some ⟨b, j, none⟩)) (hc : Hid (∀ w, C w → ∀ i v, r.cs[i]? = some v → w.cell? ⟨b, j + i, none⟩ = some v))
    (h : wpQuiet P ops C Q rest (a.put o.dst (.agg #[.int .u32 r.fr, .int .u32 r.to, .slice r.A r.n r.c]))) : wpQuiet P ops C Q (o :: rest) a :=
  wq_run hw (fun w hC => by simp only [execOp, ho, hx, Instr.loadAt, Instr.sureAddr, Sem.run_bind, Sem.run_pure, Result.andThen_ok, run_loadVar_at st (Pt.cs_length r) (hc.out w hC)]; rfl) h
end
structure PRd (w : World) (B : Nat) (A : Option Addr) (n c : Nat) (ps : List Pt) : Prop where
  rd : RdM Pt.cs w B A n c ps
  rk : ∀ p ∈ ps, RdS iv w B p.A p.n p.c p.rk
  ok : ∀ p ∈ ps, p.Ok
theorem PRd.step {w w' : World} {B : Nat} {A : Option Addr} {n c : Nat} {ps : List Pt} (h : PRd w B A n c ps) (hb : Below w.heap.size w w') : PRd w' B A n c ps := ⟨h.rd.step hb, fun p hp => (h.rk p hp).step hb, h.ok⟩
theorem PRd.more {w : World} {B B' : Nat} {A : Option Addr} {n c : Nat} {ps : List Pt} (h : PRd w B A n c ps) (hB : B ≤ B') : PRd w B' A n c ps := ⟨h.rd.more hB, fun p hp => (h.rk p hp).more hB, h.ok⟩
end Go.Th

/-! ### Types -/
namespace Go.Proofs.Ytjambnlocjjjpaa
theorem info_u8 : (Try.prog.info? 5).map (fun i => (i.zero, i.size, i.bytes)) = some (some (.int .u8 0), 1, 1) := by kernel_rfl
theorem info_int : (Try.prog.info? 3).map (fun i => (i.zero, i.size, i.bytes)) = some (some (.int .i64 0), 1, 8) := by kernel_rfl
theorem size_u8 (w : World) : (sizeOf 5).run Try.prog w = .ok 1 w := by kernel_rfl
theorem size_int (w : World) : (sizeOf 3).run Try.prog w = .ok 1 w := by kernel_rfl
theorem el_u8 : Go.Th.El Try.prog 30 5 (.int .u8 0) 1 := ⟨Try.underlying30, info_parts info_u8, rfl, size_u8⟩
theorem el_int : Go.Th.El Try.prog 24 3 (.int .i64 0) 8 := ⟨Try.underlying24, info_parts info_int, rfl, size_int⟩
theorem info_u32 : (Try.prog.info? 23).map (fun i => (i.zero, i.size, i.bytes)) = some (some (.int .u32 0), 1, 4) := by kernel_rfl
theorem size_u32 (w : World) : (sizeOf 23).run Try.prog w = .ok 1 w := by kernel_rfl
theorem el_u32 : Go.Th.El Try.prog 57 23 (.int .u32 0) 4 := ⟨Try.underlying57, info_parts info_u32, rfl, size_u32⟩
end Go.Proofs.Ytjambnlocjjjpaa

/-! ### CertMeet -/
namespace Go.Proofs.Ytjambnlocjjjpaa
open Go.RowKit Go.Th
set_option linter.unusedVariables false
theorem info_part : (Try.prog.info? 38).map (fun i => (i.zero, i.size, i.bytes)) = some (some (.agg #[.int .u32 0, .int .u32 0, .slice none 0 0]), 3, 32) := by kernel_rfl
theorem size_part (w : World) : (sizeOf 38).run Try.prog w = .ok 3 w := by kernel_rfl
theorem el_part : ElM Try.prog 22 38 (.agg #[.int .u32 0, .int .u32 0, .slice none 0 0]) 32 3 := ⟨Try.underlying22, info_parts info_part, rfl, size_part, by omega⟩
theorem st_part : St Try.prog 38 3 := ⟨⟨_, Try.underlying38⟩, by kernel_rfl⟩
/-- A value comes back; what was in memory is as it was. -/
def RetB (v : Value) (w : World) (e : Ending) (w' : World) : Prop := e = .returned v ∧ Below w.heap.size w w'
theorem get_eq {α : Type} {xs : List α} {i j : Nat} {x y : α} (h1 : xs[i]? = some x) (h2 : xs[j]? = some y) (hij : i = j) : x = y := by subst hij; rw [h1] at h2; injection h2
def MeetRel (ps : List Pt) (n : Nat) (w : World) (i : Value) (wr : World) : Prop :=
  ∃ k : Nat, k ≤ n ∧ i = .int .i64 k ∧ Hid (meetF 0 ps = meetF (nextOf ps k) (ps.drop k)) ∧ Below w.heap.size w wr
set_option maxRecDepth 100000 in
set_option maxHeartbeats 4000000 in
theorem meet_any (A : Option Addr) (n c : Nat) (ps : List Pt) (w : World) (hm : n ≤ 9223372036854775807) (B : Nat) (hr : RdM Pt.cs w B A n c ps) (hok : ∀ p ∈ ps, p.Ok) :
    Calls Try.prog 52 #[.slice A n c] w (RetB (.int .i64 (pmeet ps)) w) := by
  have Hok := Lib.hid hok
  have hlen := hr.len
  clear hok
  rcases Nat.eq_zero_or_pos n with hn0 | hn0
  · have hv : pmeet ps = 15 := by
      have : ps = [] := List.eq_nil_of_length_eq_zero (by omega)
      subst this
      rfl
    rw [hv]
    clear hv hlen
    subst hn0
    go_enter Try.func52, Try.ntmps52
    go_wp2
    go_ret
    exact ⟨rfl, Below.refl _ _⟩
  obtain ⟨p0, hp0⟩ : ∃ p, ps[0]? = some p := ⟨ps[0]'(by omega), List.getElem?_eq_getElem _⟩
  obtain ⟨m, rfl⟩ : ∃ m, n = m + 1 := ⟨n - 1, by omega⟩
  obtain ⟨pl, hpl⟩ : ∃ p, ps[m]? = some p := ⟨ps[m]'(by omega), List.getElem?_eq_getElem _⟩
  obtain ⟨v, hv⟩ : ∃ v, pmeet ps = v := ⟨_, rfl⟩
  have hways : ((p0.fr != 0) = true ∧ v = 15) ∨ ((p0.fr != 0) = false ∧ (pl.to != 4294967295) = true ∧ v = 15) ∨ ((p0.fr != 0) = false ∧ (pl.to != 4294967295) = false ∧ p0.fr = 0 ∧ pl.to = 4294967295) := by
    by_cases h1 : p0.fr = 0
    · by_cases h2 : pl.to = 4294967295
      · exact .inr (.inr ⟨by simp [h1], by simp [h2], h1, h2⟩)
      · exact .inr (.inl ⟨by simp [h1], by simp [h2], by rw [← hv]; unfold pmeet; rw [meet_end hlen hpl h2]; rfl⟩)
    · exact .inl ⟨by simp [h1], by rw [← hv]; unfold pmeet; rw [meet_first hp0 h1]; rfl⟩
  have n1 : (((m + 1 : Nat) : Int) == 0) = false := by simp; omega
  have Hp0 := Lib.hid hp0
  have Hpl := Lib.hid hpl
  have Hv := Lib.hid hv
  have Hlen := Lib.hid hlen
  have o0 := Hok.out p0 (List.mem_of_getElem? hp0)
  have ol := Hok.out pl (List.mem_of_getElem? hpl)
  have o01 := o0.fr.1
  have o02 := o0.fr.2
  have ol1 := ol.to.1
  have ol2 := ol.to.2
  clear hp0 hpl hlen hn0 o0 ol
  rw [hv]
  clear hv
  rcases hways with ⟨h1, rfl⟩ | ⟨h1, h2, rfl⟩ | ⟨h1, h2, h3, h4⟩
  · go_enter Try.func52, Try.ntmps52
    go_wp2_with ((with_reducible refine on_index (.tmp 9) ?_); refine wm_at Pt.cs_length rfl _ (.tmp 9) _ rfl el_part rfl rfl (by omega) (by omega) hr ?_; intro b1 j1 r1 hr1 hb1 hc1; have hxx : p0 = r1 := get_eq Hp0.out hr1.out (by omega); subst hxx; have f0 : w.cell? ⟨b1, j1, none⟩ = some (.int .u32 p0.fr) := hc1.out 0 _ rfl)
    go_ret
    exact ⟨rfl, Below.refl _ _⟩
  · go_enter Try.func52, Try.ntmps52
    go_wp2_with (first
      | ((with_reducible refine on_index (.tmp 9) ?_); refine wm_at Pt.cs_length rfl _ (.tmp 9) _ rfl el_part rfl rfl (by omega) (by omega) hr ?_; intro b1 j1 r1 hr1 hb1 hc1; have hxx : p0 = r1 := get_eq Hp0.out hr1.out (by omega); subst hxx; have f0 : w.cell? ⟨b1, j1, none⟩ = some (.int .u32 p0.fr) := hc1.out 0 _ rfl)
      | ((with_reducible refine on_index (.tmp 16) ?_); refine wm_at Pt.cs_length rfl _ (.tmp 16) _ rfl el_part rfl rfl (by omega) (by omega) hr ?_; intro b2 j2 r2 hr2 hb2 hc2; have hxx : pl = r2 := get_eq Hpl.out hr2.out (by omega); subst hxx; have f1 : w.cell? ⟨b2, j2 + 1, none⟩ = some (.int .u32 pl.to) := hc2.out 1 _ rfl))
    go_ret
    exact ⟨rfl, Below.refl _ _⟩
  · have Hh3 := Lib.hid h3
    have Hh4 := Lib.hid h4
    clear h3 h4
    go_enter Try.func52, Try.ntmps52
    go_wp2_with (first
      | ((with_reducible refine on_index (.tmp 9) ?_); refine wm_at Pt.cs_length rfl _ (.tmp 9) _ rfl el_part rfl rfl (by omega) (by omega) hr ?_; intro b1 j1 r1 hr1 hb1 hc1; have hxx : p0 = r1 := get_eq Hp0.out hr1.out (by omega); subst hxx; have f0 : w.cell? ⟨b1, j1, none⟩ = some (.int .u32 p0.fr) := hc1.out 0 _ rfl)
      | ((with_reducible refine on_index (.tmp 16) ?_); refine wm_at Pt.cs_length rfl _ (.tmp 16) _ rfl el_part rfl rfl (by omega) (by omega) hr ?_; intro b2 j2 r2 hr2 hb2 hc2; have hxx : pl = r2 := get_eq Hpl.out hr2.out (by omega); subst hxx; have f1 : w.cell? ⟨b2, j2 + 1, none⟩ = some (.int .u32 pl.to) := hc2.out 1 _ rfl))
    go_loopw [3, 4, 27] (fun _ _ i wr => MeetRel ps (m + 1) w i wr) (fun _ _ i _ => (m + 1) - (intOf i).toNat)
    case atStart => exact ⟨0, by omega, rfl, Lib.hid rfl, Below.refl _ _⟩
    case round =>
      obtain ⟨k, hk, rfl, hf, hb⟩ := hrel
      have hrk := hr.step hb
      have hbs := hb.size
      by_cases hlt : k < m + 1
      · obtain ⟨p, hp⟩ : ∃ p, ps[k]? = some p := ⟨ps[k]'(by have := Hlen.out; omega), List.getElem?_eq_getElem _⟩
        have op := Hok.out p (List.mem_of_getElem? hp)
        have op1 := op.fr.1
        have op2 := op.fr.2
        have op3 := op.to.1
        have op4 := op.to.2
        have Hp := Lib.hid hp
        clear hp op
        by_cases hgt : p.fr > p.to
        · have hfin : v = 15 := by rw [← Hv.out]; unfold pmeet; rw [hf.out, meet_no Hp.out (.inr hgt)]; rfl
          have Hfin := Lib.hid hfin
          clear hfin hf
          go_upto_region 6 with (first
            | ((with_reducible refine on_index (.tmp 25) ?_); refine wm_at Pt.cs_length rfl _ (.tmp 25) _ rfl el_part rfl rfl (by omega) (by omega) hrk ?_; intro b1 j1 r1 hr1 hb1 hc1; have hxx : p = r1 := get_eq Hp.out hr1.out (by omega); subst hxx)
            | ((with_reducible refine on_load (.tmp 30) ?_); refine wpt_load rfl _ (.tmp 30) rfl st_part rfl hc1 ?_)
            | ((with_reducible refine on_store_at (.tmp 4) ?_); refine wpt_store (r := Pt.zero) (s := p) rfl _ (.tmp 4) _ rfl st_part rfl rfl (Box.new wr _ _) ?_; intro w3 bx3 hg3))
          have k3 : Below wr.heap.size wr w3 := (below_alloc wr (Nat.le_refl _) (.cells Pt.zero.cs.toArray 38)).trans (below_of_grown hg3 (fun j e => by injection e with e; omega) (by simp))
          have hb3 := hb.trans (k3.mono hbs)
          have hr3 := hrk.step k3
          obtain ⟨c0, c1, c2⟩ := bx3.part
          clear hg3 hc1
          go_wp2
          go_ret
          exact ⟨by rw [Hfin.out]; try rfl, hb3⟩
        · have hle : p.fr ≤ p.to := by omega
          rcases Nat.eq_zero_or_pos k with h0 | h0
          · subst h0
            have hp0 : p = p0 := get_eq Hp.out Hp0.out rfl
            have hf2 := Lib.hid (hf.out.trans (meet_on Hp.out (by rw [hp0, Hh3.out]; rfl) hle))
            clear hp0 hf
            go_upto_region 6 with (first
              | ((with_reducible refine on_index (.tmp 25) ?_); refine wm_at Pt.cs_length rfl _ (.tmp 25) _ rfl el_part rfl rfl (by omega) (by omega) hrk ?_; intro b1 j1 r1 hr1 hb1 hc1; have hxx : p = r1 := get_eq Hp.out hr1.out (by omega); subst hxx)
              | ((with_reducible refine on_load (.tmp 30) ?_); refine wpt_load rfl _ (.tmp 30) rfl st_part rfl hc1 ?_)
              | ((with_reducible refine on_store_at (.tmp 4) ?_); refine wpt_store (r := Pt.zero) (s := p) rfl _ (.tmp 4) _ rfl st_part rfl rfl (Box.new wr _ _) ?_; intro w3 bx3 hg3))
            have k3 : Below wr.heap.size wr w3 := (below_alloc wr (Nat.le_refl _) (.cells Pt.zero.cs.toArray 38)).trans (below_of_grown hg3 (fun j e => by injection e with e; omega) (by simp))
            have hb3 := hb.trans (k3.mono hbs)
            have hr3 := hrk.step k3
            obtain ⟨c0, c1, c2⟩ := bx3.part
            clear hg3 hc1
            go_upto_region 8 with fail
            refine wp_region_reach (by kernel_rfl) (by kernel_rfl) ?_
            repeat (first | go_big_quiet_skip | go_big_quiet_step (fail) | quiet_step (fail))
            refine wpQuiet_nil ?_
            rintro _ ⟨q, rfl⟩
            have hqw5 := q.h
            obtain ⟨w5, hw5'⟩ : ∃ W, q.w = W := ⟨_, rfl⟩
            rw [hw5'] at hqw5 ⊢
            clear hw5' q
            go_wp2
            go_roundw
            case rel => exact ⟨_, _, _, _, ⟨0 + 1, by omega, by go_num, hf2, hb3.trans (hqw5.mono hb3.size)⟩, rfl, rfl, rfl, rfl⟩
            case measure => simp [intOf] <;> omega
          · obtain ⟨k, rfl⟩ : ∃ j, k = j + 1 := ⟨k - 1, by omega⟩
            obtain ⟨q, hq⟩ : ∃ q, ps[k]? = some q := ⟨ps[k]'(by have := Hlen.out; omega), List.getElem?_eq_getElem _⟩
            have oq := Hok.out q (List.mem_of_getElem? hq)
            have oq1 := oq.to.1
            have oq2 := oq.to.2
            have hnx := nextOf_succ hq
            have Hq := Lib.hid hq
            have hways : ((q.to == 4294967295) = true ∧ v = 15) ∨ ((q.to == 4294967295) = false ∧ q.to + 1 ≤ 4294967295 ∧ (p.fr != q.to + 1) = true ∧ v = 15) ∨ ((q.to == 4294967295) = false ∧ q.to + 1 ≤ 4294967295 ∧ (p.fr != q.to + 1) = false ∧ meetF 0 ps = meetF (nextOf ps (k + 1 + 1)) (ps.drop (k + 1 + 1))) := by
              by_cases h1 : p.fr = q.to + 1
              · exact .inr (.inr ⟨by simp; omega, by omega, by simp [h1], hf.out.trans (meet_on Hp.out (by rw [hnx]; exact h1) hle)⟩)
              · have hv15 : v = 15 := by rw [← Hv.out]; unfold pmeet; rw [hf.out, meet_no Hp.out (.inl (by rw [hnx]; exact h1))]; rfl
                by_cases h2 : q.to = 4294967295
                · exact .inl ⟨by simp [h2], hv15⟩
                · exact .inr (.inl ⟨by simp [h2], by omega, by simp [h1], hv15⟩)
            clear hq oq hnx hf
            rcases hways with ⟨g1, g2⟩ | ⟨g1, g2, g3, g4⟩ | ⟨g1, g2, g3, g4⟩
            · have Hfin := Lib.hid g2
              clear g2
              go_upto_region 6 with (first
                | ((with_reducible refine on_index (.tmp 25) ?_); refine wm_at Pt.cs_length rfl _ (.tmp 25) _ rfl el_part rfl rfl (by omega) (by omega) hrk ?_; intro b1 j1 r1 hr1 hb1 hc1; have hxx : p = r1 := get_eq Hp.out hr1.out (by omega); subst hxx)
                | ((with_reducible refine on_load (.tmp 30) ?_); refine wpt_load rfl _ (.tmp 30) rfl st_part rfl hc1 ?_)
                | ((with_reducible refine on_store_at (.tmp 4) ?_); refine wpt_store (r := Pt.zero) (s := p) rfl _ (.tmp 4) _ rfl st_part rfl rfl (Box.new wr _ _) ?_; intro w3 bx3 hg3))
              have k3 : Below wr.heap.size wr w3 := (below_alloc wr (Nat.le_refl _) (.cells Pt.zero.cs.toArray 38)).trans (below_of_grown hg3 (fun j e => by injection e with e; omega) (by simp))
              have hb3 := hb.trans (k3.mono hbs)
              have hr3 := hrk.step k3
              obtain ⟨c0, c1, c2⟩ := bx3.part
              clear hg3 hc1
              go_upto_region 8 with fail
              have hx1 := hr3.reach
              obtain ⟨y0, y1, y2⟩ := bx3.partC
              refine wp_region_reach (by kernel_rfl) (by kernel_rfl) ?_
              repeat (first | go_big_quiet_skip | ((with_reducible refine onq_index (.tmp 40) ?_); refine wqm_at Pt.cs_length rfl _ (.tmp 40) _ rfl el_part rfl rfl (by omega) (by omega) (Th.Reach.refl _ _) hx1 ?_; intro b4 j4 t4 ht4 hc4; have hxx : q = t4 := get_eq Hq.out ht4.out (by omega); subst hxx; have f4 : ∀ x : Step _ _, x.w.cell? ⟨b4, j4 + 1, none⟩ = some (.int .u32 q.to) := fun x => hc4.out x.w ⟨x, rfl⟩ 1 _ rfl) | go_big_quiet_step (fail) | quiet_step (fail))
              refine wpQuiet_nil ?_
              rintro _ ⟨q, rfl⟩
              have hqw5 := q.h
              obtain ⟨w5, hw5'⟩ : ∃ W, q.w = W := ⟨_, rfl⟩
              rw [hw5'] at hqw5 ⊢
              clear hw5' q
              go_wp2
              go_ret
              exact ⟨by rw [Hfin.out]; try rfl, hb3.trans (hqw5.mono hb3.size)⟩
            · have Hfin := Lib.hid g4
              clear g4
              go_upto_region 6 with (first
                | ((with_reducible refine on_index (.tmp 25) ?_); refine wm_at Pt.cs_length rfl _ (.tmp 25) _ rfl el_part rfl rfl (by omega) (by omega) hrk ?_; intro b1 j1 r1 hr1 hb1 hc1; have hxx : p = r1 := get_eq Hp.out hr1.out (by omega); subst hxx)
                | ((with_reducible refine on_load (.tmp 30) ?_); refine wpt_load rfl _ (.tmp 30) rfl st_part rfl hc1 ?_)
                | ((with_reducible refine on_store_at (.tmp 4) ?_); refine wpt_store (r := Pt.zero) (s := p) rfl _ (.tmp 4) _ rfl st_part rfl rfl (Box.new wr _ _) ?_; intro w3 bx3 hg3))
              have k3 : Below wr.heap.size wr w3 := (below_alloc wr (Nat.le_refl _) (.cells Pt.zero.cs.toArray 38)).trans (below_of_grown hg3 (fun j e => by injection e with e; omega) (by simp))
              have hb3 := hb.trans (k3.mono hbs)
              have hr3 := hrk.step k3
              obtain ⟨c0, c1, c2⟩ := bx3.part
              clear hg3 hc1
              go_upto_region 8 with fail
              have hx1 := hr3.reach
              obtain ⟨y0, y1, y2⟩ := bx3.partC
              refine wp_region_reach (by kernel_rfl) (by kernel_rfl) ?_
              repeat (first | go_big_quiet_skip | ((with_reducible refine onq_index (.tmp 40) ?_); refine wqm_at Pt.cs_length rfl _ (.tmp 40) _ rfl el_part rfl rfl (by omega) (by omega) (Th.Reach.refl _ _) hx1 ?_; intro b4 j4 t4 ht4 hc4; have hxx : q = t4 := get_eq Hq.out ht4.out (by omega); subst hxx; have f4 : ∀ x : Step _ _, x.w.cell? ⟨b4, j4 + 1, none⟩ = some (.int .u32 q.to) := fun x => hc4.out x.w ⟨x, rfl⟩ 1 _ rfl) | ((with_reducible refine onq_index (.tmp 50) ?_); refine wqm_at Pt.cs_length rfl _ (.tmp 50) _ rfl el_part rfl rfl (by omega) (by omega) (Th.Reach.refl _ _) hx1 ?_; intro b5 j5 t5 ht5 hc5; have hxx : q = t5 := get_eq Hq.out ht5.out (by omega); subst hxx; have f5 : ∀ x : Step _ _, x.w.cell? ⟨b5, j5 + 1, none⟩ = some (.int .u32 q.to) := fun x => hc5.out x.w ⟨x, rfl⟩ 1 _ rfl) | go_big_quiet_step (fail) | quiet_step (fail))
              refine wpQuiet_nil ?_
              rintro _ ⟨q, rfl⟩
              have hqw5 := q.h
              obtain ⟨w5, hw5'⟩ : ∃ W, q.w = W := ⟨_, rfl⟩
              rw [hw5'] at hqw5 ⊢
              clear hw5' q
              go_wp2
              go_ret
              exact ⟨by rw [Hfin.out]; try rfl, hb3.trans (hqw5.mono hb3.size)⟩
            · have Hf2 := Lib.hid g4
              clear g4
              go_upto_region 6 with (first
                | ((with_reducible refine on_index (.tmp 25) ?_); refine wm_at Pt.cs_length rfl _ (.tmp 25) _ rfl el_part rfl rfl (by omega) (by omega) hrk ?_; intro b1 j1 r1 hr1 hb1 hc1; have hxx : p = r1 := get_eq Hp.out hr1.out (by omega); subst hxx)
                | ((with_reducible refine on_load (.tmp 30) ?_); refine wpt_load rfl _ (.tmp 30) rfl st_part rfl hc1 ?_)
                | ((with_reducible refine on_store_at (.tmp 4) ?_); refine wpt_store (r := Pt.zero) (s := p) rfl _ (.tmp 4) _ rfl st_part rfl rfl (Box.new wr _ _) ?_; intro w3 bx3 hg3))
              have k3 : Below wr.heap.size wr w3 := (below_alloc wr (Nat.le_refl _) (.cells Pt.zero.cs.toArray 38)).trans (below_of_grown hg3 (fun j e => by injection e with e; omega) (by simp))
              have hb3 := hb.trans (k3.mono hbs)
              have hr3 := hrk.step k3
              obtain ⟨c0, c1, c2⟩ := bx3.part
              clear hg3 hc1
              go_upto_region 8 with fail
              have hx1 := hr3.reach
              obtain ⟨y0, y1, y2⟩ := bx3.partC
              refine wp_region_reach (by kernel_rfl) (by kernel_rfl) ?_
              repeat (first | go_big_quiet_skip | ((with_reducible refine onq_index (.tmp 40) ?_); refine wqm_at Pt.cs_length rfl _ (.tmp 40) _ rfl el_part rfl rfl (by omega) (by omega) (Th.Reach.refl _ _) hx1 ?_; intro b4 j4 t4 ht4 hc4; have hxx : q = t4 := get_eq Hq.out ht4.out (by omega); subst hxx; have f4 : ∀ x : Step _ _, x.w.cell? ⟨b4, j4 + 1, none⟩ = some (.int .u32 q.to) := fun x => hc4.out x.w ⟨x, rfl⟩ 1 _ rfl) | ((with_reducible refine onq_index (.tmp 50) ?_); refine wqm_at Pt.cs_length rfl _ (.tmp 50) _ rfl el_part rfl rfl (by omega) (by omega) (Th.Reach.refl _ _) hx1 ?_; intro b5 j5 t5 ht5 hc5; have hxx : q = t5 := get_eq Hq.out ht5.out (by omega); subst hxx; have f5 : ∀ x : Step _ _, x.w.cell? ⟨b5, j5 + 1, none⟩ = some (.int .u32 q.to) := fun x => hc5.out x.w ⟨x, rfl⟩ 1 _ rfl) | go_big_quiet_step (fail) | quiet_step (fail))
              refine wpQuiet_nil ?_
              rintro _ ⟨q, rfl⟩
              have hqw5 := q.h
              obtain ⟨w5, hw5'⟩ : ∃ W, q.w = W := ⟨_, rfl⟩
              rw [hw5'] at hqw5 ⊢
              clear hw5' q
              go_wp2
              go_roundw
              case rel => exact ⟨_, _, _, _, ⟨k + 1 + 1, by omega, by go_num, Hf2, hb3.trans (hqw5.mono hb3.size)⟩, rfl, rfl, rfl, rfl⟩
              case measure => simp [intOf] <;> omega
      · have hkn : k = m + 1 := by omega
        subst hkn
        have hfin : v = 0 := by
          rw [← Hv.out]; unfold pmeet
          rw [hf.out, List.drop_eq_nil_of_le (by have := Hlen.out; omega), nextOf_succ Hpl.out, Hh4.out]; rfl
        have Hfin := Lib.hid hfin
        clear hfin hf
        go_wp2
        go_ret
        exact ⟨by rw [Hfin.out]; try rfl, hb⟩
end Go.Proofs.Ytjambnlocjjjpaa

/-! ### SetB -/
namespace Go.Th
open Go.RowKit Go.Maps
/-- Block b is a map that holds just the numbers seen, each as true. -/
def SetB (w : World) (P : Program) (k e : TypeId) (b n : Nat) (seen : List Int) : Prop :=
  ∃ D : DataW Unit, w.ownsMap P k (plainElem P e) b n D ∧ ∀ x : Int, D.atKey (.int .i64 x) (.lit (.bool false)) = .lit (.bool (decide (x ∈ seen)))
theorem SetB.made (w : World) (P : Program) (k e : TypeId) : SetB (w.alloc (.map #[] 0)) P k e w.heap.size 0 [] :=
  ⟨.map [], World.ownsMap_made _ _ _ _, fun x => by simp [DataW.atKey]⟩
theorem SetB.kept {w w' : World} {P : Program} {k e : TypeId} {b n : Nat} {seen : List Int} (h : SetB w P k e b n seen) {row : Option Nat} (hg : w.grownBy w' row) (hne : some b ≠ row) : SetB w' P k e b n seen := by
  obtain ⟨D, h1, h2⟩ := h
  exact ⟨D, h1.kept hg hne, h2⟩
theorem plainElem_bool_inv {P : Program} {e : TypeId} (he : P.underlying e = some .bool) {v : Value} {c : Bool} {ps : List MemPlace} (h : plainElem (H := Unit) P e v = some (.lit (.bool c), ps)) : v = .bool c := by
  unfold plainElem at h
  rw [he] at h
  split at h
  · simp at h; rw [h.1]
  · rename_i hq; simp at hq
  · rename_i hq; simp at hq
  · simp at h
theorem wf_i64 {x : Int} (hx : -9223372036854775808 ≤ x ∧ x ≤ 9223372036854775807) : (Lit.int .i64 x).wf = true := by
  have h1 : IntKind.i64.min = -9223372036854775808 := by decide

  simp [Lit.wf]
  rw [h1]
  exact hx
theorem SetB.look {w : World} {P : Program} {k e t : TypeId} {b n : Nat} {seen : List Int} (h : SetB w P k e b n seen) (hk : P.underlying k = some (.int .i64)) (ht : P.underlying t = some (.map k e)) (he : P.underlying e = some .bool) (hz : (zeroValue e).run P w = .ok (.bool false) w)
    (x : Int) (hx : -9223372036854775808 ≤ x ∧ x ≤ 9223372036854775807) : (Instr.lookup t (.map (some b)) (.int .i64 x) false).run P w = .ok (.bool (decide (x ∈ seen))) w := by
  obtain ⟨D, h1, h2⟩ := h
  have hwf := wf_i64 hx
  obtain ⟨v, ps, hrun, hv⟩ := h1.lookup (Maps.int_keyed hk) ht hz (plainElem_bool he false) (Maps.keyOf_int_mk hk hwf)
  rw [h2 x] at hv
  rw [hrun, plainElem_bool_inv he hv]
section
variable {P : Program} {ops : Array Oper} {rest : List Oper} {o : Oper} {a : Act} {Q : Exit → Act → World → Prop} {w : World}
theorem wl_lookB (hw : Region.wanted o (yielded ops a.tmps) = true) (m y : Operand) (t : TypeId) (hop : o.op = .lookup t m y false) {k e : TypeId} (hk : P.underlying k = some (.int .i64)) (ht : P.underlying t = some (.map k e)) (he : P.underlying e = some .bool) (hz : ∀ w, (zeroValue e).run P w = .ok (.bool false) w)
    {b n : Nat} {seen : List Int} (hm : a.eval m = .map (some b)) (hs : SetB w P k e b n seen) {x : Int} (hy : a.eval y = .int .i64 x) (hx : -9223372036854775808 ≤ x ∧ x ≤ 9223372036854775807)
    (h : wpList P ops Q rest (a.put o.dst (.bool (decide (x ∈ seen)))) w) : wpList P ops Q (o :: rest) a w :=
  wl_run hw (by simp only [execOp, hop, hm, hy, Sem.run_bind, hs.look hk ht he (hz w) x hx, Result.andThen, Sem.run_pure]) h
theorem wl_storeB (hg : o.guard = none) (m y v : Operand) (t : TypeId) (hop : o.op = .mapUpdate t m y v) {k e : TypeId} (hk : P.underlying k = some (.int .i64)) (ht : P.underlying t = some (.map k e)) (he : P.underlying e = some .bool)
    {b n : Nat} {seen : List Int} (hm : a.eval m = .map (some b)) (hs : SetB w P k e b n seen) (hn : n < maxLen) {x : Int} (hy : a.eval y = .int .i64 x) (hx : -9223372036854775808 ≤ x ∧ x ≤ 9223372036854775807) (hv : a.eval v = .bool true)
    (h : ∀ w', SetB w' P k e b (n + 1) (seen ++ [x]) → w.grownBy w' (some b) → wpList P ops Q rest (a.put o.dst undef) w') : wpList P ops Q (o :: rest) a w := by
  obtain ⟨D, h1, h2⟩ := hs
  have hwf := wf_i64 hx
  refine wpList_mapUpdate_own w hg m y v t hop k e (Maps.int_keyed hk) ht _ b n D hm h1 hn _ _ (.int .i64 x) hy hv (Maps.keyOf_int_mk hk hwf) (.lit (.bool true)) [] (plainElem_bool he true) fun w' h3 h4 => h w' ⟨_, h3, fun z => ?_⟩ h4
  by_cases hzx : z = x
  · subst hzx
    rw [Maps.atKey_put_same h1.isMap (show WideAt.IsKeyLit (.int .i64 z) from trivial)]
    simp
  · rw [Maps.atKey_put_other (fun e => hzx (by injection e)), h2 z]
    simp [hzx]
theorem on_lookup (m y : Operand) {d t ok ty pos af g} (h : wpList P ops Q (⟨d, .lookup t m y ok, ty, pos, af, g⟩ :: rest) a w) : wpList P ops Q (⟨d, .lookup t m y ok, ty, pos, af, g⟩ :: rest) a w := h
theorem on_mapUpdate (m y v : Operand) {d t ty pos af g} (h : wpList P ops Q (⟨d, .mapUpdate t m y v, ty, pos, af, g⟩ :: rest) a w) : wpList P ops Q (⟨d, .mapUpdate t m y v, ty, pos, af, g⟩ :: rest) a w := h
end
end Go.Th

/-! ### CertMay -/
namespace Go.Proofs.Ytjambnlocjjjpaa
open Go.RowKit Go.Th
set_option linter.unusedVariables false
/-- The closure: is a number no node? -/
theorem outside_any (x nodes : Int) (g : Nat) (w : World) (hg : Box w g 3 #[.int .i64 nodes]) : Calls Try.prog 42 #[.int .i64 x, .pointer (some ⟨g, 0, none⟩)] w fun e w' => e = .returned (.bool (outs nodes x)) ∧ w = w' := by
  have c0 : w.cell? ⟨g, 0, none⟩ = some (.int .i64 nodes) := hg.cell 0
  have hw : (decide (x < 0) = true ∧ outs nodes x = true) ∨ (decide (x < 0) = false ∧ outs nodes x = decide (nodes ≤ x)) := by
    unfold outs
    cases h : decide (x < 0) <;> simp
  generalize outs nodes x = b at hw ⊢
  rcases hw with ⟨h1, rfl⟩ | ⟨h1, rfl⟩
  all_goals go_enter Try.func42, Try.ntmps42
  all_goals go_wp2
  all_goals go_ret
  all_goals exact ⟨rfl, rfl⟩
theorem indexFunc_any (A : Option Addr) (n c : Nat) (zs : List Int) (nodes : Int) (g : Nat) (w : World) (hm : n ≤ 9223372036854775807) (B : Nat) (hr : RdS iv w B A n c zs) (hg : Box w g 3 #[.int .i64 nodes]) (b : Bool) (hb : Hid (zs.any (outs nodes) = b)) :
    Calls Try.prog 55 #[.slice A n c, .func (.func 42) #[] #[.pointer (some ⟨g, 0, none⟩)]] w fun e w' => (∃ i : Int, e = .returned (.int .i64 i) ∧ (b = true ∧ 0 ≤ i ∨ b = false ∧ i = -1)) ∧ w = w' := by
  have Hlen := Lib.hid hr.len
  go_enter Try.func55, Try.ntmps55
  go_wp2
  go_loop [8] (fun i => ∃ k : Nat, k ≤ n ∧ i = .int .i64 k ∧ Hid ((zs.take k).any (outs nodes) = false)) (fun i => n - (intOf i).toNat)
  case atStart => exact ⟨0, by omega, rfl, Lib.hid rfl⟩
  case round =>
    obtain ⟨k, hk, rfl, hf⟩ := hrel
    by_cases hlt : k < n
    · obtain ⟨x, hx⟩ : ∃ x, zs[k]? = some x := ⟨zs[k]'(by have := Hlen.out; omega), List.getElem?_eq_getElem _⟩
      have hsn := any_snoc hx (outs nodes)
      have hmem := List.mem_of_getElem? hx
      have Hx := Lib.hid hx
      have Hmem := Lib.hid hmem
      rw [hf.out, Bool.false_or] at hsn
      have hc := outside_any x nodes g w hg
      obtain ⟨b1, hb1⟩ : ∃ b, outs nodes x = b := ⟨_, rfl⟩
      rw [hb1] at hsn hc
      have Hsn := Lib.hid hsn
      have Hc := Lib.hid hc
      have Hb := Lib.hid hb1
      clear hsn hc hx hmem hb1 hf
      cases b1 with
      | true =>
        go_wp2_with (first
          | (refine wl_at_i rfl _ (.tmp 12) _ rfl el_int rfl rfl (by omega) (by omega) hr ?_; intro p x' hx' hc1; obtain rfl : x' = x := Option.some.inj (hx'.out.symm.trans Hx.out))
          | (go_at_call 42; refine (Hc.out).mono ?_; rintro e w' ⟨rfl, rfl⟩))
        go_ret
        exact ⟨⟨k, rfl, .inl ⟨by rw [← hb.out]; exact List.any_eq_true.2 ⟨_, Hmem.out, Hb.out⟩, by omega⟩⟩, rfl⟩
      | false =>
        go_wp2_with (first
          | (refine wl_at_i rfl _ (.tmp 12) _ rfl el_int rfl rfl (by omega) (by omega) hr ?_; intro p x' hx' hc1; obtain rfl : x' = x := Option.some.inj (hx'.out.symm.trans Hx.out))
          | (go_at_call 42; refine (Hc.out).mono ?_; rintro e w' ⟨rfl, rfl⟩))
        go_round
        case rel => exact ⟨k + 1, by omega, by go_num, Hsn⟩
        case measure => simp [intOf] <;> omega
    · have hfin : zs.any (outs nodes) = false := by
        have := hf.out
        rwa [List.take_of_length_le (by have := Hlen.out; omega)] at this
      have Hfin := Lib.hid hfin
      clear hfin hf
      go_wp2
      go_ret
      exact ⟨⟨-1, rfl, .inr ⟨by rw [← hb.out]; exact Hfin.out, rfl⟩⟩, rfl⟩
theorem containsFunc_any (A : Option Addr) (n c : Nat) (zs : List Int) (nodes : Int) (g : Nat) (w : World) (hm : n ≤ 9223372036854775807) (B : Nat) (hr : RdS iv w B A n c zs) (hg : Box w g 3 #[.int .i64 nodes]) (b : Bool) (hb : Hid (zs.any (outs nodes) = b)) :
    Calls Try.prog 53 #[.slice A n c, .func (.func 42) #[] #[.pointer (some ⟨g, 0, none⟩)]] w fun e w' => e = .returned (.bool b) ∧ w = w' := by
  have hc := indexFunc_any A n c zs nodes g w hm B hr hg b hb
  have Hc := Lib.hid hc
  clear hc
  go_enter Try.func53, Try.ntmps53
  go_wp2_with fail
  refine Hc.out.mono ?_
  rintro e w' ⟨⟨i, rfl, hi⟩, rfl⟩
  rcases hi with ⟨rfl, hi⟩ | ⟨rfl, rfl⟩
  · go_wp2
    go_ret
    exact ⟨rfl, rfl⟩
  · go_wp2
    go_ret
    exact ⟨rfl, rfl⟩
/-- A certificate as a value. -/
def Cv (v : Int) (Ap : Option Addr) (np cp : Nat) (d : Int) (At : Option Addr) (nt ct : Nat) : Array Value := #[.int .i64 v, .slice Ap np cp, .int .u32 d, .slice At nt ct]
theorem zero_bool (w : World) : (zeroValue 4).run Try.prog w = .ok (.bool false) w := by kernel_rfl
def LoopsRel (tr : List Int) (first : Int) (n m : Nat) (wm : World) (i : Value) (wr : World) : Prop :=
  ∃ k : Nat, k ≤ n ∧ i = .int .i64 k ∧ Hid (trgo [] first tr = trgo (tr.take k) first (tr.drop k)) ∧ SetB wr Try.prog 3 4 m k (tr.take k) ∧ Below m wm wr
theorem tr_no {tr : List Int} {first : Int} {k : Nat} {x : Int} (h : tr[k]? = some x) (h1 : x ∈ tr.take k ∨ x < first) : trgo (tr.take k) first (tr.drop k) = 17 := by
  rw [drop_cons h]; simp only [trgo]; rw [if_pos h1]
theorem tr_on {tr : List Int} {first : Int} {k : Nat} {x : Int} (h : tr[k]? = some x) (h1 : ¬ (x ∈ tr.take k ∨ x < first)) : trgo (tr.take k) first (tr.drop k) = trgo (tr.take (k + 1)) first (tr.drop (k + 1)) := by
  rw [drop_cons h]; simp only [trgo]; rw [if_neg h1, List.take_add_one, h]; rfl
set_option maxRecDepth 100000 in
set_option maxHeartbeats 4000000 in
theorem loops_any (v : Int) (Ap : Option Addr) (np cp : Nat) (d : Int) (At : Option Addr) (nt ct : Nat) (nodes : Int) (g : Nat) (w : World) (hnp : np ≤ 9223372036854775807) (hnt : nt ≤ 1000000) (ps : List Pt) (tr : List Int) (hps : ps.length = np) (B : Nat) (hB : B ≤ w.heap.size) (hr : RdS iv w B At nt ct tr) (hbd : ∀ x ∈ tr, -9223372036854775808 ≤ x ∧ x ≤ 9223372036854775807) (hg : Box w g 3 #[.int .i64 nodes]) :
    Calls Try.prog 44 #[.agg #[.int .i64 v, .slice Ap np cp, .int .u32 d, .slice At nt ct], .int .i64 nodes, .func (.func 42) #[] #[.pointer (some ⟨g, 0, none⟩)]] w (RetB (.int .i64 (cloops ps tr nodes)) w) := by
  obtain ⟨V, hV⟩ : ∃ V, cloops ps tr nodes = V := ⟨_, rfl⟩
  have hlen := hr.len
  have hways : (0 < np ∧ V = 3) ∨ (np = 0 ∧ nt = 0 ∧ V = 12) ∨ (np = 0 ∧ 0 < nt ∧ nodes < nt ∧ V = 12) ∨ (np = 0 ∧ 0 < nt ∧ (nt : Int) ≤ nodes ∧ tr.any (outs nodes) = true ∧ V = 10) ∨ (np = 0 ∧ 0 < nt ∧ (nt : Int) ≤ nodes ∧ tr.any (outs nodes) = false ∧ V = trgo [] (trfirst tr) tr) := by
    rw [← hV]
    unfold cloops
    by_cases h1 : np = 0
    · rw [if_neg (by omega)]
      by_cases h2 : nt = 0
      · rw [if_pos (.inl (by omega))]; exact .inr (.inl ⟨h1, h2, rfl⟩)
      · by_cases h3 : nodes < nt
        · rw [if_pos (.inr (by omega))]; exact .inr (.inr (.inl ⟨h1, by omega, h3, rfl⟩))
        · rw [if_neg (by omega)]
          cases h4 : tr.any (outs nodes) with
          | true => rw [if_pos rfl]; exact .inr (.inr (.inr (.inl ⟨h1, by omega, by omega, rfl, rfl⟩)))
          | false => rw [if_neg (by simp)]; exact .inr (.inr (.inr (.inr ⟨h1, by omega, by omega, rfl, rfl⟩)))
    · rw [if_pos (by omega)]; exact .inl ⟨by omega, rfl⟩
  have Hlen := Lib.hid hlen
  have Hbd := Lib.hid hbd
  have bx := Box.new w (Cv v Ap np cp d At nt ct) 26
  obtain ⟨c0, c1, c2, c3⟩ : (w.alloc (.cells (Cv v Ap np cp d At nt ct) 26)).cell? ⟨w.heap.size, 0, none⟩ = some (.int .i64 v) ∧ (w.alloc (.cells (Cv v Ap np cp d At nt ct) 26)).cell? ⟨w.heap.size, 1, none⟩ = some (.slice Ap np cp) ∧ (w.alloc (.cells (Cv v Ap np cp d At nt ct) 26)).cell? ⟨w.heap.size, 2, none⟩ = some (.int .u32 d) ∧ (w.alloc (.cells (Cv v Ap np cp d At nt ct) 26)).cell? ⟨w.heap.size, 3, none⟩ = some (.slice At nt ct) := ⟨bx.cell 0, bx.cell 1, bx.cell 2, bx.cell 3⟩
  have k1 := below_alloc w (Nat.le_refl _) (.cells (Cv v Ap np cp d At nt ct) 26)
  have hr1 := hr.step k1
  have hg1 := hg.step k1
  have hmm := @run_makeMap Try.prog
  rw [hV]
  clear hlen hbd hV hr hg hps
  rcases hways with ⟨h1, rfl⟩ | ⟨rfl, rfl, rfl⟩ | ⟨rfl, h1, h2, rfl⟩ | ⟨rfl, h1, h2, h3, rfl⟩ | ⟨rfl, h1, h2, h3, h4⟩
  · go_enter Try.func44, Try.ntmps44
    go_wp2
    go_ret
    exact ⟨rfl, k1⟩
  · go_enter Try.func44, Try.ntmps44
    go_wp2
    go_ret
    exact ⟨rfl, k1⟩
  · have n1 : ((nt : Int) == 0) = false := by simp; omega
    go_enter Try.func44, Try.ntmps44
    go_wp2
    go_ret
    exact ⟨rfl, k1⟩
  · have n1 : ((nt : Int) == 0) = false := by simp; omega
    have n2 : decide (nodes < (nt : Int)) = false := decide_eq_false (by omega)
    have H3 := Lib.hid h3
    clear h3
    go_enter Try.func44, Try.ntmps44
    go_wp2_with (go_at_call 53; refine (containsFunc_any _ _ _ tr nodes g _ (by omega) _ hr1 hg1 true H3).mono ?_; rintro e w1 ⟨rfl, rfl⟩)
    go_ret
    exact ⟨rfl, k1⟩
  · have n1 : ((nt : Int) == 0) = false := by simp; omega
    have n2 : decide (nodes < (nt : Int)) = false := decide_eq_false (by omega)
    have H3 := Lib.hid h3
    obtain ⟨x0, hx0⟩ : ∃ x, tr[0]? = some x := ⟨tr[0]'(by have := Hlen.out; omega), List.getElem?_eq_getElem _⟩
    have hfi : trfirst tr = x0 := by
      cases tr with
      | nil => simp at hx0
      | cons y ys => simp at hx0; exact hx0
    rw [hfi] at h4
    have Hx0 := Lib.hid hx0
    have H4 := Lib.hid h4
    have m3 : ((w.alloc (.cells (Cv v Ap 0 cp d At nt ct) 26)).alloc (.map #[] 0)).cell? ⟨w.heap.size, 3, none⟩ = some (.slice At nt ct) := (bx.alloc (.map #[] 0)).cell 3
    have bxm := bx.alloc (.map #[] 0)
    have hrm := hr1.alloc (.map #[] 0)
    clear h3 hfi hx0 h4
    go_enter Try.func44, Try.ntmps44
    go_wp2_with (go_at_call 53; refine (containsFunc_any _ _ _ tr nodes g _ (by omega) _ hr1 hg1 false H3).mono ?_; rintro e w1 ⟨rfl, rfl⟩)
    have hs0 := SetB.made (w.alloc (.cells (Cv v Ap 0 cp d At nt ct) 26)) Try.prog 3 4
    rw [heap_size_alloc] at hs0
    go_loopw [33] (fun i wr => LoopsRel tr x0 nt (w.heap.size + 1) ((w.alloc (.cells (Cv v Ap 0 cp d At nt ct) 26)).alloc (.map #[] 0)) i wr) (fun i _ => nt - (intOf i).toNat)
    case atStart => exact ⟨0, by omega, rfl, Lib.hid rfl, hs0, Below.refl _ _⟩
    case round =>
      obtain ⟨k, hk, rfl, hf, hsb, hb⟩ := hrel
      have bxr := bxm.below hb (by omega)
      have hrk := hrm.below (hb.mono (by omega))
      have c3 : wr.cell? ⟨w.heap.size, 3, none⟩ = some (.slice At nt ct) := bxr.cell 3
      by_cases hlt : k < nt
      · obtain ⟨x, hx⟩ : ∃ x, tr[k]? = some x := ⟨tr[k]'(by have := Hlen.out; omega), List.getElem?_eq_getElem _⟩
        have hxb := Lib.hid (Hbd.out x (List.mem_of_getElem? hx))
        have Hx := Lib.hid hx
        have hways : (decide (x ∈ tr.take k) = true ∧ V = 17) ∨ (decide (x ∈ tr.take k) = false ∧ x < x0 ∧ V = 17) ∨ (decide (x ∈ tr.take k) = false ∧ x0 ≤ x ∧ trgo [] x0 tr = trgo (tr.take (k + 1)) x0 (tr.drop (k + 1))) := by
          rw [H4.out, hf.out]
          by_cases g1 : x ∈ tr.take k
          · exact .inl ⟨decide_eq_true g1, tr_no hx (.inl g1)⟩
          · by_cases g2 : x < x0
            · exact .inr (.inl ⟨decide_eq_false g1, g2, tr_no hx (.inr g2)⟩)
            · exact .inr (.inr ⟨decide_eq_false g1, by omega, tr_on hx (fun h => h.elim g1 g2)⟩)
        have hst : tr.take (k + 1) = tr.take k ++ [x] := by rw [List.take_add_one, hx]; rfl
        have Hst := Lib.hid hst
        clear hx hf hst
        obtain ⟨b, hb0⟩ : ∃ b, decide (x ∈ tr.take k) = b := ⟨_, rfl⟩
        have Hb0 := Lib.hid hb0
        rw [hb0] at hways
        clear hb0
        rcases hways with ⟨rfl, g1⟩ | ⟨rfl, g1, g2⟩ | ⟨rfl, g1, g2⟩
        · have H1 := Lib.hid g1
          clear g1
          go_wp2_with (first
            | ((with_reducible refine on_index (.tmp 31) ?_); refine wl_at_i rfl _ (.tmp 31) _ rfl el_int rfl rfl (by omega) (by omega) hrk ?_; intro p x' hx' hc1; obtain rfl : x' = x := Option.some.inj (hx'.out.symm.trans Hx.out))
            | ((with_reducible refine on_lookup (.tmp 37) (.tmp 38) ?_); refine wl_lookB rfl _ _ _ rfl Try.underlying3 Try.underlying99 Try.underlying4 zero_bool rfl hsb rfl hxb.out ?_; rw [Hb0.out]))
          go_ret
          exact ⟨by rw [H1.out]; try rfl, k1.trans (((below_alloc _ (by simp) (.map #[] 0)).trans (hb.mono (by omega))))⟩
        · have H2 := Lib.hid g2
          clear g2
          go_wp2_with (first
            | ((with_reducible refine on_index (.tmp 31) ?_); refine wl_at_i rfl _ (.tmp 31) _ rfl el_int rfl rfl (by omega) (by omega) hrk ?_; intro p x' hx' hc1; obtain rfl : x' = x := Option.some.inj (hx'.out.symm.trans Hx.out))
            | ((with_reducible refine on_index (.tmp 43) ?_); refine wl_at_i rfl _ (.tmp 43) _ rfl el_int rfl rfl (by omega) (by omega) hrk ?_; intro p2 x2 hx2 hc2; obtain rfl : x2 = x0 := Option.some.inj (hx2.out.symm.trans Hx0.out))
            | ((with_reducible refine on_lookup (.tmp 37) (.tmp 38) ?_); refine wl_lookB rfl _ _ _ rfl Try.underlying3 Try.underlying99 Try.underlying4 zero_bool rfl hsb rfl hxb.out ?_; rw [Hb0.out]))
          go_ret
          exact ⟨by rw [H2.out]; try rfl, k1.trans (((below_alloc _ (by simp) (.map #[] 0)).trans (hb.mono (by omega))))⟩
        · have H2 := Lib.hid g2
          clear g2
          have hdl : decide (x < x0) = false := decide_eq_false (by omega)
          go_wp2_with (first
            | ((with_reducible refine on_index (.tmp 31) ?_); refine wl_at_i rfl _ (.tmp 31) _ rfl el_int rfl rfl (by omega) (by omega) hrk ?_; intro p x' hx' hc1; obtain rfl : x' = x := Option.some.inj (hx'.out.symm.trans Hx.out))
            | ((with_reducible refine on_index (.tmp 43) ?_); refine wl_at_i rfl _ (.tmp 43) _ rfl el_int rfl rfl (by omega) (by omega) hrk ?_; intro p2 x2 hx2 hc2; obtain rfl : x2 = x0 := Option.some.inj (hx2.out.symm.trans Hx0.out))
            | ((with_reducible refine on_lookup (.tmp 37) (.tmp 38) ?_); refine wl_lookB rfl _ _ _ rfl Try.underlying3 Try.underlying99 Try.underlying4 zero_bool rfl hsb rfl hxb.out ?_; rw [Hb0.out])
            | ((with_reducible refine on_mapUpdate (.tmp 48) (.tmp 49) _ ?_); refine wl_storeB rfl _ _ _ _ rfl Try.underlying3 Try.underlying99 Try.underlying4 rfl hsb (by simp only [maxLen]; omega) rfl hxb.out rfl ?_; intro w5 hs5 hg5; rw [← Hst.out] at hs5))
          go_roundw
          case rel => exact ⟨k + 1, by omega, by go_num, H2, hs5, hb.trans (below_of_grown hg5 (fun j e => by injection e with e; omega) (by have := hb.size; simp at this; omega))⟩
          case measure => simp [intOf] <;> omega
      · have hkn : k = nt := by omega
        subst hkn
        have hfin : V = 0 := by
          rw [H4.out, hf.out, List.drop_eq_nil_of_le (by have := Hlen.out; omega)]; rfl
        have Hfin := Lib.hid hfin
        clear hfin hf
        go_wp2
        go_ret
        exact ⟨by rw [Hfin.out]; try rfl, k1.trans (((below_alloc _ (by simp) (.map #[] 0)).trans (hb.mono (by omega))))⟩
def FreeRel (ps : List Pt) (nodes : Int) (n : Nat) (w : World) (i : Value) (wr : World) : Prop :=
  ∃ k : Nat, k ≤ n ∧ i = .int .i64 k ∧ Hid (ranks nodes ps = ranks nodes (ps.drop k)) ∧ Below w.heap.size w wr
set_option maxRecDepth 100000 in
set_option maxHeartbeats 4000000 in
theorem free_any (v : Int) (Ap : Option Addr) (np cp : Nat) (d : Int) (At : Option Addr) (nt ct : Nat) (nodes : Int) (g : Nat) (w : World) (hnp : np ≤ 9223372036854775807) (hnt : nt ≤ 9223372036854775807) (ps : List Pt) (tr : List Int) (B : Nat) (hp : PRd w B Ap np cp ps) (htl : tr.length = nt) (hsm : ∀ p ∈ ps, p.n ≤ 9223372036854775807) (hg : Box w g 3 #[.int .i64 nodes]) :
    Calls Try.prog 43 #[.agg #[.int .i64 v, .slice Ap np cp, .int .u32 d, .slice At nt ct], .int .i64 nodes, .func (.func 42) #[] #[.pointer (some ⟨g, 0, none⟩)]] w (RetB (.int .i64 (cfree ps d tr nodes)) w) := by
  obtain ⟨V, hV⟩ : ∃ V, cfree ps d tr nodes = V := ⟨_, rfl⟩
  have hlen := hp.rd.len
  have hways : ((d != 0) = true ∧ V = 3) ∨ ((d != 0) = false ∧ 0 < nt ∧ V = 3) ∨ ((d != 0) = false ∧ nt = 0 ∧ 8193 < np ∧ V = 12) ∨ ((d != 0) = false ∧ nt = 0 ∧ np ≤ 8193 ∧ pmeet ps = 15 ∧ V = 15) ∨ ((d != 0) = false ∧ nt = 0 ∧ np ≤ 8193 ∧ pmeet ps = 0 ∧ V = ranks nodes ps) := by
    rw [← hV]
    unfold cfree pmeet
    by_cases h1 : d = 0
    · by_cases h2 : nt = 0
      · rw [if_neg (by omega)]
        by_cases h3 : 8193 < np
        · rw [if_pos (by omega)]; exact .inr (.inr (.inl ⟨by simp [h1], h2, h3, rfl⟩))
        · rw [if_neg (by omega)]
          cases h4 : meetF 0 ps with
          | false => exact .inr (.inr (.inr (.inl ⟨by simp [h1], h2, by omega, rfl, rfl⟩)))
          | true => exact .inr (.inr (.inr (.inr ⟨by simp [h1], h2, by omega, rfl, rfl⟩)))
      · rw [if_pos (by omega)]; exact .inr (.inl ⟨by simp [h1], by omega, rfl⟩)
    · rw [if_pos (by omega)]; exact .inl ⟨by simp [h1], rfl⟩
  have Hlen := Lib.hid hlen
  have Hsm := Lib.hid hsm
  have bx := Box.new w (Cv v Ap np cp d At nt ct) 26
  obtain ⟨c0, c1, c2, c3⟩ : (w.alloc (.cells (Cv v Ap np cp d At nt ct) 26)).cell? ⟨w.heap.size, 0, none⟩ = some (.int .i64 v) ∧ (w.alloc (.cells (Cv v Ap np cp d At nt ct) 26)).cell? ⟨w.heap.size, 1, none⟩ = some (.slice Ap np cp) ∧ (w.alloc (.cells (Cv v Ap np cp d At nt ct) 26)).cell? ⟨w.heap.size, 2, none⟩ = some (.int .u32 d) ∧ (w.alloc (.cells (Cv v Ap np cp d At nt ct) 26)).cell? ⟨w.heap.size, 3, none⟩ = some (.slice At nt ct) := ⟨bx.cell 0, bx.cell 1, bx.cell 2, bx.cell 3⟩
  have k1 := below_alloc w (Nat.le_refl _) (.cells (Cv v Ap np cp d At nt ct) 26)
  have hp1 := hp.step k1
  have hg1 := hg.step k1
  rw [hV]
  clear hlen hsm hV hp hg htl
  rcases hways with ⟨h1, rfl⟩ | ⟨h1, h2, rfl⟩ | ⟨h1, rfl, h2, rfl⟩ | ⟨h1, rfl, h2, h3, rfl⟩ | ⟨h1, rfl, h2, h3, h4⟩
  · go_enter Try.func43, Try.ntmps43
    go_wp2
    go_ret
    exact ⟨rfl, k1⟩
  · go_enter Try.func43, Try.ntmps43
    go_wp2
    go_ret
    exact ⟨rfl, k1⟩
  · go_enter Try.func43, Try.ntmps43
    go_wp2
    go_ret
    exact ⟨rfl, k1⟩
  · have hc := meet_any Ap np cp ps _ hnp _ hp1.rd hp1.ok
    rw [h3] at hc
    have Hc := Lib.hid hc
    have n1 : decide ((np : Int) > 8193) = false := decide_eq_false (by omega)
    clear hc h3
    go_enter Try.func43, Try.ntmps43
    go_wp2_with (go_at_call 52; refine (Hc.out).mono ?_; rintro e w2 ⟨rfl, hb2⟩)
    go_ret
    exact ⟨rfl, k1.trans (hb2.mono k1.size)⟩
  · have hc := meet_any Ap np cp ps _ hnp _ hp1.rd hp1.ok
    rw [h3] at hc
    have Hc := Lib.hid hc
    have H4 := Lib.hid h4
    clear hc h3 h4
    go_enter Try.func43, Try.ntmps43
    go_wp2_with (go_at_call 52; refine (Hc.out).mono ?_; rintro e w2 ⟨rfl, hb2⟩; have e1 : w2.cell? ⟨w.heap.size, 1, none⟩ = some (.slice Ap np cp) := (bx.step hb2).cell 1; have hp2 := hp1.step hb2; have hg2 := hg1.step hb2; have B2 := k1.trans (hb2.mono k1.size))
    go_loopw [6, 9, 32] (fun _ _ i wr => FreeRel ps nodes np w2 i wr) (fun _ _ i _ => np - (intOf i).toNat)
    case atStart => exact ⟨0, by omega, rfl, Lib.hid rfl, Below.refl _ _⟩
    case round =>
      obtain ⟨k, hk, rfl, hf, hb⟩ := hrel
      have hbs := hb.size
      have hrk := hp2.step hb
      have hgk := hg2.step hb
      by_cases hlt : k < np
      · obtain ⟨p, hp⟩ : ∃ p, ps[k]? = some p := ⟨ps[k]'(by have := Hlen.out; omega), List.getElem?_eq_getElem _⟩
        have hpn := Hsm.out p (List.mem_of_getElem? hp)
        have hrl : p.rk.length = p.n := (hrk.rk p (List.mem_of_getElem? hp)).len
        have hways : (((p.n : Int) != nodes) = true ∧ V = 1) ∨ (((p.n : Int) != nodes) = false ∧ p.rk.any (outs nodes) = true ∧ V = 16) ∨ (((p.n : Int) != nodes) = false ∧ p.rk.any (outs nodes) = false ∧ ranks nodes ps = ranks nodes (ps.drop (k + 1))) := by
          rw [H4.out, hf.out]
          by_cases g1 : (p.n : Int) = nodes
          · cases g2 : p.rk.any (outs nodes) with
            | true => exact .inr (.inl ⟨by simp [g1], rfl, ranks_out hp (by omega) g2⟩)
            | false => exact .inr (.inr ⟨by simp [g1], rfl, ranks_on hp (by omega) g2⟩)
          · exact .inl ⟨by simp [g1], ranks_size hp (by omega)⟩
        have Hp := Lib.hid hp
        clear hp hf hrl
        rcases hways with ⟨g1, g2⟩ | ⟨g1, g2, g3⟩ | ⟨g1, g2, g3⟩
        · have H2 := Lib.hid g2
          have Hany : Hid (p.rk.any (outs nodes) = p.rk.any (outs nodes)) := Lib.hid rfl
          clear g2
          go_wp2_with (first
            | ((with_reducible refine on_index (.tmp 30) ?_); refine wm_at Pt.cs_length rfl _ (.tmp 30) _ rfl el_part rfl rfl (by omega) (by omega) hrk.rd ?_; intro b1 j1 r1 hr1 hb1 hc1; have hxx : p = r1 := get_eq Hp.out hr1.out (by omega); subst hxx)
            | ((with_reducible refine on_load (.tmp 34) ?_); refine wpt_load rfl _ (.tmp 34) rfl st_part rfl hc1 ?_)
            | ((with_reducible refine on_store_at (.tmp 9) ?_); refine wpt_store (r := Pt.zero) (s := p) rfl _ (.tmp 9) _ rfl st_part rfl rfl (Box.new wr _ _) ?_; intro w3 bx3 hg3; have k3 : Below wr.heap.size wr w3 := (below_alloc wr (Nat.le_refl _) (.cells Pt.zero.cs.toArray 38)).trans (below_of_grown hg3 (fun j e => by injection e with e; omega) (by simp)); have hb3 := hb.trans (k3.mono hbs); have hr3 := (hrk.step k3).rk _ (List.mem_of_getElem? Hp.out); have hg3' := hgk.step k3; obtain ⟨d0, d1, d2⟩ := bx3.part)
            | (go_at_call 53; refine (containsFunc_any _ _ _ p.rk nodes g _ (by omega) _ hr3 hg3' _ Hany).mono ?_; rintro e w4 ⟨rfl, rfl⟩))
          go_ret
          exact ⟨by rw [H2.out]; try rfl, B2.trans (hb3.mono B2.size)⟩
        · have H2 := Lib.hid g3
          have Hany := Lib.hid g2
          clear g2 g3
          go_wp2_with (first
            | ((with_reducible refine on_index (.tmp 30) ?_); refine wm_at Pt.cs_length rfl _ (.tmp 30) _ rfl el_part rfl rfl (by omega) (by omega) hrk.rd ?_; intro b1 j1 r1 hr1 hb1 hc1; have hxx : p = r1 := get_eq Hp.out hr1.out (by omega); subst hxx)
            | ((with_reducible refine on_load (.tmp 34) ?_); refine wpt_load rfl _ (.tmp 34) rfl st_part rfl hc1 ?_)
            | ((with_reducible refine on_store_at (.tmp 9) ?_); refine wpt_store (r := Pt.zero) (s := p) rfl _ (.tmp 9) _ rfl st_part rfl rfl (Box.new wr _ _) ?_; intro w3 bx3 hg3; have k3 : Below wr.heap.size wr w3 := (below_alloc wr (Nat.le_refl _) (.cells Pt.zero.cs.toArray 38)).trans (below_of_grown hg3 (fun j e => by injection e with e; omega) (by simp)); have hb3 := hb.trans (k3.mono hbs); have hr3 := (hrk.step k3).rk _ (List.mem_of_getElem? Hp.out); have hg3' := hgk.step k3; obtain ⟨d0, d1, d2⟩ := bx3.part)
            | (go_at_call 53; refine (containsFunc_any _ _ _ p.rk nodes g _ (by omega) _ hr3 hg3' _ Hany).mono ?_; rintro e w4 ⟨rfl, rfl⟩))
          go_ret
          exact ⟨by rw [H2.out]; try rfl, B2.trans (hb3.mono B2.size)⟩
        · have H2 := Lib.hid g3
          have Hany := Lib.hid g2
          clear g2 g3
          go_wp2_with (first
            | ((with_reducible refine on_index (.tmp 30) ?_); refine wm_at Pt.cs_length rfl _ (.tmp 30) _ rfl el_part rfl rfl (by omega) (by omega) hrk.rd ?_; intro b1 j1 r1 hr1 hb1 hc1; have hxx : p = r1 := get_eq Hp.out hr1.out (by omega); subst hxx)
            | ((with_reducible refine on_load (.tmp 34) ?_); refine wpt_load rfl _ (.tmp 34) rfl st_part rfl hc1 ?_)
            | ((with_reducible refine on_store_at (.tmp 9) ?_); refine wpt_store (r := Pt.zero) (s := p) rfl _ (.tmp 9) _ rfl st_part rfl rfl (Box.new wr _ _) ?_; intro w3 bx3 hg3; have k3 : Below wr.heap.size wr w3 := (below_alloc wr (Nat.le_refl _) (.cells Pt.zero.cs.toArray 38)).trans (below_of_grown hg3 (fun j e => by injection e with e; omega) (by simp)); have hb3 := hb.trans (k3.mono hbs); have hr3 := (hrk.step k3).rk _ (List.mem_of_getElem? Hp.out); have hg3' := hgk.step k3; obtain ⟨d0, d1, d2⟩ := bx3.part)
            | (go_at_call 53; refine (containsFunc_any _ _ _ p.rk nodes g _ (by omega) _ hr3 hg3' _ Hany).mono ?_; rintro e w4 ⟨rfl, rfl⟩))
          go_roundw
          case rel => exact ⟨k + 1, by omega, by go_num, H2, hb3⟩
          case measure => simp [intOf] <;> omega
      · have hkn : k = np := by omega
        subst hkn
        have hfin : V = 0 := by
          rw [H4.out, hf.out, List.drop_eq_nil_of_le (by have := Hlen.out; omega)]; rfl
        have Hfin := Lib.hid hfin
        clear hfin hf
        go_wp2
        go_ret
        exact ⟨by rw [Hfin.out]; try rfl, B2.trans (hb.mono B2.size)⟩
theorem st_cert : St Try.prog 26 4 := ⟨⟨_, Try.underlying26⟩, by kernel_rfl⟩
section
variable {ops : Array Oper} {rest : List Oper} {o : Oper} {a : Act} {Q : Exit → Act → World → Prop} {w : World}
theorem wcv_box (hw : Region.wanted o (yielded ops a.tmps) = true) (x : Operand) (ho : o.op = .load 26 x) {g : Nat} {t : TypeId} {v : Int} {Ap : Option Addr} {np cp : Nat} {d : Int} {At : Option Addr} {nt ct : Nat} (hx : a.eval x = .pointer (some ⟨g, 0, none⟩)) (hb : Box w g t (Cv v Ap np cp d At nt ct))
    (h : wpList Try.prog ops Q rest (a.put o.dst (.agg #[.int .i64 v, .slice Ap np cp, .int .u32 d, .slice At nt ct])) w) : wpList Try.prog ops Q (o :: rest) a w :=
  wb_load hw _ x ho st_cert hx hb rfl h
end
set_option maxRecDepth 100000 in
set_option maxHeartbeats 4000000 in
theorem cmay_any (v : Int) (Ap : Option Addr) (np cp : Nat) (d : Int) (At : Option Addr) (nt ct : Nat) (nodes : Int) (w : World) (hnp : np ≤ 9223372036854775807) (hnt : nt ≤ 1000000) (ps : List Pt) (tr : List Int) (B : Nat) (hB : B ≤ w.heap.size) (hp : PRd w B Ap np cp ps) (ht : RdS iv w B At nt ct tr) (hbd : ∀ x ∈ tr, -9223372036854775808 ≤ x ∧ x ≤ 9223372036854775807) (hsm : ∀ p ∈ ps, p.n ≤ 9223372036854775807) :
    Calls Try.prog 20 #[.agg #[.int .i64 v, .slice Ap np cp, .int .u32 d, .slice At nt ct], .int .i64 nodes] w (RetB (.int .i64 (cmay v ps d tr nodes)) w) := by
  obtain ⟨V, hV⟩ : ∃ V, cmay v ps d tr nodes = V := ⟨_, rfl⟩
  have bx := (Box.new w (Cv v Ap np cp d At nt ct) 26).alloc (.cells #[.int .i64 nodes] 3)
  have bn := Box.new (w.alloc (.cells (Cv v Ap np cp d At nt ct) 26)) #[.int .i64 nodes] 3
  rw [heap_size_alloc] at bn
  have k1 := (below_alloc w (Nat.le_refl _) (.cells (Cv v Ap np cp d At nt ct) 26)).alloc (by simp) (.cells #[.int .i64 nodes] 3)
  have hways : ((v == 1) = true ∧ V = cfree ps d tr nodes) ∨ ((v == 1) = false ∧ (v == 2) = true ∧ V = cloops ps tr nodes) ∨ ((v == 1) = false ∧ (v == 2) = false ∧ V = 9) := by
    rw [← hV]
    unfold cmay
    by_cases h1 : v = 1
    · exact .inl ⟨by simp [h1], if_pos h1⟩
    · by_cases h2 : v = 2
      · exact .inr (.inl ⟨by simp [h1], by simp [h2], by rw [if_neg h1, if_pos h2]⟩)
      · exact .inr (.inr ⟨by simp [h1], by simp [h2], by rw [if_neg h1, if_neg h2]⟩)
  have hf := free_any v Ap np cp d At nt ct nodes (w.heap.size + 1) _ hnp (by omega) ps tr B (hp.step k1) ht.len hsm bn
  have hl := loops_any v Ap np cp d At nt ct nodes (w.heap.size + 1) _ hnp hnt ps tr hp.rd.len B (by simp; omega) (ht.step k1) hbd bn
  rw [hV]
  clear hp ht hbd hsm hV
  generalize cfree ps d tr nodes = a1 at hf hways
  generalize cloops ps tr nodes = a2 at hl hways
  have Hf := Lib.hid hf
  have Hl := Lib.hid hl
  clear hf hl
  rcases hways with ⟨h1, rfl⟩ | ⟨h1, h2, rfl⟩ | ⟨h1, h2, rfl⟩
  · go_enter Try.func20, Try.ntmps20
    go_wp2_with (first
      | ((with_reducible refine on_load (.tmp 2) ?_); refine wcv_box rfl (.tmp 2) rfl rfl bx ?_)
      | (go_at_call 43; refine (Hf.out).mono ?_; rintro e w2 ⟨rfl, hb2⟩))
    go_ret
    exact ⟨rfl, k1.trans (hb2.mono k1.size)⟩
  · go_enter Try.func20, Try.ntmps20
    go_wp2_with (first
      | ((with_reducible refine on_load (.tmp 2) ?_); refine wcv_box rfl (.tmp 2) rfl rfl bx ?_)
      | (go_at_call 44; refine (Hl.out).mono ?_; rintro e w2 ⟨rfl, hb2⟩))
    go_ret
    exact ⟨rfl, k1.trans (hb2.mono k1.size)⟩
  · go_enter Try.func20, Try.ntmps20
    go_wp2
    go_ret
    exact ⟨rfl, k1⟩
theorem cmay_is (v : Int) (Ap : Option Addr) (np cp : Nat) (d : Int) (At : Option Addr) (nt ct : Nat) (nodes : Int) (w : World) (hnp : np ≤ 9223372036854775807) (hnt : nt ≤ 1000000) (ps : List Pt) (tr : List Int) (B : Nat) (hB : B ≤ w.heap.size) (hp : PRd w B Ap np cp ps) (ht : RdS iv w B At nt ct tr) (hbd : ∀ x ∈ tr, -9223372036854775808 ≤ x ∧ x ≤ 9223372036854775807) (hsm : ∀ p ∈ ps, p.n ≤ 9223372036854775807) (V : Int) (hV : cmay v ps d tr nodes = V) :
    Calls Try.prog 20 #[.agg #[.int .i64 v, .slice Ap np cp, .int .u32 d, .slice At nt ct], .int .i64 nodes] w fun e w' => e = .returned (.int .i64 V) ∧ Below w.heap.size w w' := by
  have := cmay_any v Ap np cp d At nt ct nodes w hnp hnt ps tr B hB hp ht hbd hsm
  rw [hV] at this
  exact this
theorem meet_is (A : Option Addr) (n c : Nat) (ps : List Pt) (w : World) (hm : n ≤ 9223372036854775807) (B : Nat) (hr : RdM Pt.cs w B A n c ps) (hok : ∀ p ∈ ps, p.Ok) (V : Int) (hV : pmeet ps = V) :
    Calls Try.prog 52 #[.slice A n c] w fun e w' => e = .returned (.int .i64 V) ∧ Below w.heap.size w w' := by
  have := meet_any A n c ps w hm B hr hok
  rw [hV] at this
  exact this
theorem pt_mem2 {p q : Pt} {R : Pt → Prop} (h1 : R p) (h2 : R q) : ∀ x ∈ [p, q], R x := by
  intro x hx
  simp only [List.mem_cons, List.not_mem_nil, or_false] at hx
  rcases hx with rfl | rfl
  · exact h1
  · exact h2
end Go.Proofs.Ytjambnlocjjjpaa

/-! ### CertMany -/
namespace Go.Th
open Go.RowKit
theorem flat_set {α : Type} {f : α → List Value} {k : Nat} (hf : ∀ x, (f x).length = k) (xs : List α) (i j : Nat) (v : Value) (x x' : α) (hi : xs[i]? = some x) (hj : j < k) (hx : f x' = (f x).set j v) : (xs.flatMap f).set (i * k + j) v = (xs.set i x').flatMap f := by
  have hil : i < xs.length := (List.getElem?_eq_some_iff.1 hi).1
  have hlen : (xs.flatMap f).length = xs.length * k := flat_length hf xs
  have hlen' : ((xs.set i x').flatMap f).length = xs.length * k := by rw [flat_length hf, List.length_set]
  refine List.ext_getElem? fun t => ?_
  by_cases ht : t < xs.length * k
  · have hk : 0 < k := by omega
    have hq : t / k < xs.length := Nat.div_lt_of_lt_mul (by rw [Nat.mul_comm]; exact ht)
    have hr : t % k < k := Nat.mod_lt _ hk
    have e : t / k * k + t % k = t := by rw [Nat.mul_comm]; exact Nat.div_add_mod t k
    have e1 := flat_get hf (List.getElem?_eq_getElem hq) hr
    rw [e] at e1
    have hq' : t / k < (xs.set i x').length := by rw [List.length_set]; exact hq
    have e2 := flat_get hf (List.getElem?_eq_getElem hq') hr
    rw [e] at e2
    rw [e2, List.getElem?_set, e1]
    by_cases hti : t / k = i
    · subst hti
      have hx0 : xs[t / k] = x := (List.getElem?_eq_some_iff.1 hi).2
      have hx1 : (xs.set (t / k) x')[t / k] = x' := by simp
      rw [hx0, hx1, hx, List.getElem?_set]
      by_cases htj : j = t % k
      · rw [if_pos (by rw [htj]; exact e), if_pos htj, if_pos (by omega), if_pos (by rw [hf]; exact hj)]
      · rw [if_neg (by intro h; apply htj; omega), if_neg htj]
    · have hx1 : (xs.set i x')[t / k] = xs[t / k] := by rw [List.getElem_set_ne (by omega)]
      rw [hx1, if_neg]
      intro h
      apply hti
      rw [← h, Nat.mul_comm, Nat.mul_add_div hk, Nat.div_eq_of_lt hj, Nat.add_zero]
  · rw [List.getElem?_eq_none (by rw [List.length_set]; omega), List.getElem?_eq_none (by omega)]
theorem OwM.setAt {α : Type} {f : α → List Value} {k base e g n c : Nat} {w : World} {xs : List α} (hf : ∀ x, (f x).length = k) (h : OwM f k w base e (some ⟨g, 0, none⟩) n c xs) {i j : Nat} {x x' : α} {v : Value} (hi : xs[i]? = some x) (hj : j < k) (hx : f x' = (f x).set j v) :
    OwM f k (w.setCell ⟨g, i * k + j, none⟩ v) base e (some ⟨g, 0, none⟩) n c (xs.set i x') ∧ w.grownBy (w.setCell ⟨g, i * k + j, none⟩ v) (some g) := by
  obtain ⟨h1, h2⟩ := h.ow.own.stored (i * k + j) v
  rw [flat_set hf xs i j v x x' hi hj hx] at h1
  exact ⟨⟨⟨h1⟩, by rw [List.length_set]; exact h.len⟩, h2⟩
theorem OwM.cellAt {α : Type} {f : α → List Value} {k base e g n c : Nat} {w : World} {xs : List α} (hf : ∀ x, (f x).length = k) (h : OwM f k w base e (some ⟨g, 0, none⟩) n c xs) {i j : Nat} {x : α} {v : Value} (hi : xs[i]? = some x) (hj : (f x)[j]? = some v) :
    w.cell? ⟨g, i * k + j, none⟩ = some v ∧ w.frozen? ⟨g, i * k + j, none⟩ = false := by
  have hjk : j < k := by rw [← hf x]; exact (List.getElem?_eq_some_iff.1 hj).1
  have hil : i < n := by rw [← h.len]; exact (List.getElem?_eq_some_iff.1 hi).1
  have hlt : i * k + j < n * k := by
    have : (i + 1) * k ≤ n * k := Nat.mul_le_mul_right k hil
    rw [Nat.succ_mul] at this
    omega
  exact ⟨by rw [h.ow.own.cellAt _ hlt, flat_get hf hi hjk, hj], h.ow.own.frozenAt _⟩
/-- The parts of CertMany. -/
def nPart (i : Nat) : Pt := ⟨i, i, none, 0, 0, []⟩
def nParts (k : Nat) : List Pt := (List.range k).map nPart
theorem nParts_succ (k : Nat) : nParts (k + 1) = nParts k ++ [nPart k] := by simp [nParts, List.range_succ]
theorem nParts_length (k : Nat) : (nParts k).length = k := by simp [nParts]
theorem nParts_get {k i : Nat} (h : i < k) : (nParts k)[i]? = some (nPart i) := by simp [nParts, h]
/-- The last one goes to the top. -/
def mParts (k : Nat) : List Pt := (nParts (k + 1)).set k ⟨k, 4294967295, none, 0, 0, []⟩
theorem mParts_eq (k : Nat) : mParts k = nParts k ++ [⟨k, 4294967295, none, 0, 0, []⟩] := by
  unfold mParts
  rw [nParts_succ, List.set_append_right _ _ (by rw [nParts_length]; exact Nat.le_refl _), nParts_length, Nat.sub_self]
  rfl
theorem meet_n : ∀ (k j : Nat) (last : Pt), last.fr = (j + k : Nat) → last.to = 4294967295 → last.fr ≤ last.to → meetF (j : Nat) (((List.range' j k).map nPart) ++ [last]) = true
  | 0, j, last, h1, h2, h3 => by
    simp only [List.range'_zero, List.map_nil, List.nil_append, meetF, Bool.and_eq_true, decide_eq_true_eq]
    exact ⟨by rw [h1]; simp, h3, by rw [h2]; rfl⟩
  | k + 1, j, last, h1, h2, h3 => by
    have ih := meet_n k (j + 1) last (by rw [h1]; congr 1; omega) h2 h3
    simp only [List.range'_succ, List.map_cons, List.cons_append, meetF, Bool.and_eq_true, decide_eq_true_eq]
    refine ⟨rfl, Int.le_refl _, ?_⟩
    have e : (nPart j).to + 1 = ((j + 1 : Nat) : Int) := rfl
    rw [e]
    exact ih
theorem meet_mParts (k : Nat) (hk : k ≤ 4294967295) : meetF 0 (mParts k) = true := by
  rw [mParts_eq]
  have := meet_n k 0 ⟨k, 4294967295, none, 0, 0, []⟩ (by simp) rfl (by show (k : Int) ≤ 4294967295; omega)
  rw [← List.range_eq_range'] at this
  exact this
theorem mParts_all {R : Pt → Prop} (k : Nat) (h : ∀ i, i < k → R (nPart i)) (hl : R ⟨k, 4294967295, none, 0, 0, []⟩) : ∀ p ∈ mParts k, R p := by
  intro p hp
  rw [mParts_eq] at hp
  rcases List.mem_append.1 hp with hp | hp
  · obtain ⟨i, hi, rfl⟩ := List.mem_map.1 hp
    exact h i (List.mem_range.1 hi)
  · rw [List.mem_singleton.1 hp]; exact hl
theorem ranks_none : ∀ ps : List Pt, (∀ p ∈ ps, p.rk = []) → ranks 0 ps = 0
  | [], _ => rfl
  | p :: ps, h => by
    have e := h p (by simp)
    simp [ranks, e]
    exact ranks_none ps fun q hq => h q (by simp [hq])
end Go.Th
namespace Go.Proofs.Ytjambnlocjjjpaa
open Go.RowKit Go.Th
set_option linter.unusedVariables false
theorem ow_ne {w : World} {A : Option Addr} {n c b g : Nat} {e : TypeId} {ps : List Pt} (h : OwM Pt.cs 3 w b e A n c ps) (hg : g < b) : rowOf A ≠ some g := fun e => by
  rcases h.ow.form with ⟨e2, _⟩ | ⟨g', e2, hb, _⟩
  · subst e2; simp [rowOf] at e
  · subst e2; simp [rowOf] at e; omega
def ManyRel (n g : Nat) (wb : World) (i : Value) (wr : World) : Prop :=
  ∃ (k c : Nat) (A : Option Addr), k ≤ n ∧ i = .int .i64 k ∧ Box wr g 26 (Cv 1 A k c 0 none 0 0) ∧ OwM Pt.cs 3 wr (g + 1) 38 A k c (nParts k) ∧ Below g wb wr
end Go.Proofs.Ytjambnlocjjjpaa

/-! ### CertTraces -/
namespace Go.Th
open Go.RowKit
theorem PRd.none_ {w : World} {B : Nat} {A : Option Addr} {c : Nat} {ps : List Pt} (h : PRd w B A 0 c ps) (w' : World) (B' : Nat) : PRd w' B' A 0 c ps := by
  have : ps = [] := List.eq_nil_of_length_eq_zero h.rd.len
  subst this
  exact ⟨⟨⟨by simp⟩, rfl, Nat.zero_le _⟩, by simp, by simp⟩
end Go.Th
namespace Go.Proofs.Ytjambnlocjjjpaa
open Go.RowKit Go.Th
set_option linter.unusedVariables false
theorem bits_fin : ∀ m : Fin 256, (m.1 &&& 1 = 0 ∨ m.1 &&& 1 = 1) ∧ (m.1 &&& 2 = 0 ∨ m.1 &&& 2 = 2) ∧ (m.1 &&& 4 = 0 ∨ m.1 &&& 4 = 4) ∧ (m.1 &&& 8 = 0 ∨ m.1 &&& 8 = 8) := by decide +kernel
def TRel (q : Nat → Nat → Prop) (N M F : Nat) (a : Int) (g : Nat) (wb : World) (s13 : Value) (wx : World) : Prop :=
  ∃ (v : Int) (A : Option Addr) (n c : Nat) (tr : List Int) (Ap : Option Addr) (np cp : Nat) (ps : List Pt), s13 = .int .i64 v ∧ Box wx g 26 (Cv 2 Ap np cp a A n c) ∧ OwS iv wx (g + 1) 3 A n c tr ∧ PRd wx wx.heap.size Ap np cp ps ∧ Below g wb wx ∧ Hid (TSt N M F v np tr) ∧ Hid (∀ x ∈ tr, 0 ≤ x ∧ x ≤ 1000) ∧ 1 ≤ n ∧ n ≤ 65 ∧ Hid (∀ p ∈ ps, p.n = 0) ∧ q n np
def TLoop (N M F : Nat) (a : Int) (g : Nat) (wb : World) (wx : World) : Prop :=
  ∃ (A : Option Addr) (n c : Nat) (tr : List Int) (ps : List Pt) (Ap : Option Addr) (cp : Nat), Box wx g 26 (Cv 2 Ap 0 cp a A n c) ∧ OwS iv wx (g + 1) 3 A n c tr ∧ PRd wx wx.heap.size Ap 0 cp ps ∧ Below g wb wx ∧ Hid (∀ x ∈ tr, 0 ≤ x ∧ x ≤ 1000) ∧ 1 ≤ n ∧ n ≤ N + 1
def lenAt (w : World) (g : Nat) : Nat := match w.cell? ⟨g, 3, none⟩ with
  | some (.slice _ n _) => n
  | _ => 0
def TrRel (F M : Nat) (a : Int) (g : Nat) (wb : World) (i : Value) (wr : World) : Prop :=
  ∃ (k c : Nat) (A : Option Addr), k ≤ M ∧ i = .int .i64 k ∧ Box wr g 26 (Cv 2 none 0 0 a A k c) ∧ OwS iv wr (g + 1) 3 A k c (tr0 F k) ∧ Below g wb wr
theorem owS_ne {w : World} {A : Option Addr} {n c b g : Nat} {e : TypeId} {ps : List Int} (h : OwS iv w b e A n c ps) (hg : g < b) : rowOf A ≠ some g := fun e => by
  rcases h.ow.form with ⟨e2, _⟩ | ⟨g', e2, hb, _⟩
  · subst e2; simp [rowOf] at e
  · subst e2; simp [rowOf] at e; omega
theorem owS_cell {w : World} {A : Option Addr} {n c b g : Nat} {e : TypeId} {ps : List Int} (h : OwS iv w b e A n c ps) (hg : g < b) : ∀ g', A = some ⟨g', 0, none⟩ → (some g : Option Nat) ≠ some g' := fun g' hA e => by
  injection e with e
  rcases h.ow.form with ⟨e2, _⟩ | ⟨g2, e2, hb, _⟩
  · rw [hA] at e2; cases e2
  · rw [hA] at e2; injection e2 with e2; injection e2 with e2; omega
end Go.Proofs.Ytjambnlocjjjpaa

/-! ### NewArms -/
namespace Go.Th
open Go.RowKit
set_option linter.unusedVariables false
section
variable {P : Program} {ops : Array Oper} {rest : List Oper} {o : Oper} {a : Act} {Q : Exit → Act → World → Prop} {w : World}
/-- A variable is made; where it lies is a name. -/
theorem wl_newBox (hw : Region.wanted o (yielded ops a.tmps) = true) (T : TypeId) (ho : o.op = .alloc T) {cs : Array Value} {k : Nat} (hz : (P.info? T).map (fun i => (i.zero.map Value.cells, i.size)) = some (some cs, k))
    (h : ∀ g w', w.heap.size ≤ g → g < w'.heap.size → Box w' g T cs → Below w.heap.size w w' → wpList P ops Q rest (a.put o.dst (.pointer (some ⟨g, 0, none⟩))) w') : wpList P ops Q (o :: rest) a w := by
  cases hi : P.info? T with
  | none => rw [hi] at hz; simp at hz
  | some i =>
    rw [hi] at hz
    simp only [Option.map_some, Option.some.injEq, Prod.mk.injEq, Option.map_eq_some_iff] at hz
    obtain ⟨⟨z, hz1, hz2⟩, _⟩ := hz
    refine wl_run hw (v := .pointer (some ⟨w.heap.size, 0, none⟩)) ?_ (h _ (w.alloc (.cells cs T)) (Nat.le_refl _) (by simp) (Box.new w cs T) (below_alloc w (Nat.le_refl _) _))
    simp [execOp, ho, Instr.alloc, zeroValue, typeInfo, hi, hz1, newVar, newRow, hz2]
/-- A slice literal is made. -/
theorem wl_sliceM (hw : Region.wanted o (yielded ops a.tmps) = true) (T : TypeId) (n : Nat) (parts : Array (Nat × Operand)) (ho : o.op = .buildSlice T n parts) {E bytes k : Nat} {z : Value} (el : ElM P T E z bytes k) {α : Type} {f : α → List Value} (hf : ∀ x, (f x).length = k) {base : Nat} (xs : List α) (hx : xs.length = n)
    (hs : n * k ≤ 16777216) (hn : 0 < n) (hb : base ≤ w.heap.size)
    {vs : List (Nat × Value)} (hv : parts.toList.map (fun (i, x) => (i, a.eval x)) = vs) (hc : Instr.fill (fun i => some (i * k, k)) ((Array.range (n * k)).map (z.cells[· % z.cells.size]!)) vs = some (xs.flatMap f).toArray)
    (h : ∀ g w', w.heap.size ≤ g → g < w'.heap.size → OwM f k w' base E (some ⟨g, 0, none⟩) n n xs → Below w.heap.size w w' → wpList P ops Q rest (a.put o.dst (.slice (some ⟨g, 0, none⟩) n n)) w') : wpList P ops Q (o :: rest) a w := by
  obtain ⟨i, hi, hz, hk, hby⟩ := el.info
  have hpos : 0 < n * k := Nat.mul_pos hn el.pos
  refine wl_run hw (v := .slice (some ⟨w.heap.size, 0, none⟩) n n) ?_ (h _ (w.alloc (.cells (xs.flatMap f).toArray E)) (Nat.le_refl _) (by simp) (OwM.lit hf w _ n hb (by simp only [maxLen]; have := Nat.le_mul_of_pos_right n el.pos; omega) hx rfl) (below_alloc w (Nat.le_refl _) _))
  simp only [execOp, ho, Sem.run_bind, run_buildSlice w T E n _ _ i z el.ht hi hz (by rw [hk]; omega) (by rw [hk]; omega) (by rw [hk, Array.toList_map]; exact hv ▸ hc), Result.andThen_ok, Sem.run_pure]
theorem on_makeL (l : Operand) {d t c ty pos af g} (h : wpList P ops Q (⟨d, .makeSlice t l c, ty, pos, af, g⟩ :: rest) a w) : wpList P ops Q (⟨d, .makeSlice t l c, ty, pos, af, g⟩ :: rest) a w := h
theorem on_alloc {T : TypeId} {d ty pos af g} (h : wpList P ops Q (⟨d, .alloc T, ty, pos, af, g⟩ :: rest) a w) : wpList P ops Q (⟨d, .alloc T, ty, pos, af, g⟩ :: rest) a w := h
theorem on_sliceLit {T : TypeId} {n : Nat} {ps d ty pos af g} (h : wpList P ops Q (⟨d, .buildSlice T n ps, ty, pos, af, g⟩ :: rest) a w) : wpList P ops Q (⟨d, .buildSlice T n ps, ty, pos, af, g⟩ :: rest) a w := h
theorem OwS.lt {α : Type} {f : α → Value} {base e n c g : Nat} {w : World} {xs : List α} (h : OwS f w base e (some ⟨g, 0, none⟩) n c xs) : base ≤ g ∧ g < w.heap.size := by
  rcases h.ow.form with ⟨e, _⟩ | ⟨g', e, hb, hl⟩
  · cases e
  · injection e with e; injection e with e; subst e; exact ⟨hb, hl⟩
theorem OwM.lt {α : Type} {f : α → List Value} {k base e n c g : Nat} {w : World} {xs : List α} (h : OwM f k w base e (some ⟨g, 0, none⟩) n c xs) : base ≤ g ∧ g < w.heap.size := by
  rcases h.ow.form with ⟨e, _⟩ | ⟨g', e, hb, hl⟩
  · cases e
  · injection e with e; injection e with e; subst e; exact ⟨hb, hl⟩
end
section
variable {P : Program} {ops : Array Oper} {rest : List Oper} {o : Oper} {a : Act} {C : World → Prop} {Q : Act → Prop}
/-- &s[i] of a row of the call's own, in a quiet walk. -/
theorem wqm_place (hw : Region.wanted o (yielded ops a.tmps) = true) (T : TypeId) (s i : Operand) (ho : o.op = .indexAddr T s i) {E bytes k : Nat} {z : Value} (el : ElM P T E z bytes k)
    {g n c : Nat} {kk : IntKind} {I : Int} (hs : a.eval s = .slice (some ⟨g, 0, none⟩) n c) (hi : a.eval i = .int kk I) (j : Nat) (hj : I = (j : Int) ∧ j < n)
    (h : wpQuiet P ops C Q rest (a.put o.dst (.pointer (some ⟨g, j * k, none⟩)))) : wpQuiet P ops C Q (o :: rest) a := by
  obtain ⟨rfl, hj⟩ := hj
  refine wq_run hw (v := .pointer (some ⟨g, j * k, none⟩)) (fun w hC => ?_) h
  have := run_indexAt (P := P) (w := w) T el.ht (el.size w) ⟨g, 0, none⟩ n c kk (j : Int) (by omega) (by omega)
  rw [Addr.add_lit, Nat.zero_add, Int.toNat_natCast] at this
  simp only [execOp, ho, hs, hi, Sem.run_bind, this, Result.andThen, Sem.run_pure]
end
structure KStep (g : Nat) (w0 : World) where
  w : World
  h : w.heap[g]? = w0.heap[g]?
instance (g : Nat) (w : World) : Nonempty (KStep g w) := ⟨⟨w, rfl⟩⟩
def KReach (g : Nat) (w w' : World) : Prop := ∃ p : KStep g w, w' = p.w
theorem KReach.of {g : Nat} {w w' : World} (h : w'.heap[g]? = w.heap[g]?) : KReach g w w' := ⟨⟨w', h⟩, rfl⟩
theorem KReach.refl (g : Nat) (w : World) : KReach g w w := .of rfl
theorem KReach.trans (g : Nat) (x y z : World) (h1 : KReach g x y) (h2 : KReach g y z) : KReach g x z := by
  obtain ⟨p, rfl⟩ := h1
  obtain ⟨q, rfl⟩ := h2
  exact .of (q.h.trans p.h)
attribute [go_sem] KReach
theorem keep_alloc {g : Nat} (w : World) (o : Obj) (h : g < w.heap.size) : (w.alloc o).heap[g]? = w.heap[g]? := (below_alloc w (Nat.le_refl _) o).block g h
theorem keep_grown {g : Nat} {w w' : World} {row : Option Nat} (h : w.grownBy w' row) (hl : g < w.heap.size) (hne : row ≠ some g) : w'.heap[g]? = w.heap[g]? := h.block g hl (fun e => hne e.symm)
theorem Box.keep {w : World} {g : Nat} {t : TypeId} {cs : Array Value} (h : Box w g t cs) (q : KStep g w) : Box q.w g t cs := ⟨q.h.trans h.at_⟩
end Go.Th

/-! ### Append -/
namespace Go.Th
open Go.RowKit
section
variable {P : Program} {ops : Array Oper} {rest : List Oper} {o : Oper} {a : Act} {Q : Exit → Act → World → Prop} {w : World}
/-- append, and where the row lies then. -/
theorem wl_appendA (hw : Region.wanted o (yielded ops a.tmps) = true) (s x : Operand) (t : TypeId)
    (ho : o.op = .call { callee := .builtin .append, args := #[s, x], argTypes := #[t, t] })
    {base E : Nat} {z : Value} {bytes : Nat} (el : El P t E z bytes) {α : Type} {f : α → Value} (hf : ∀ x, (f x).oneCell' = true)
    {A : Option Addr} {n c : Nat} (hs : a.eval s = .slice A n c) {xs : List α} (hown : OwS f w base E A n c xs)
    {B : Nat} {A' : Option Addr} {m c' : Nat} (hx : a.eval x = .slice A' m c') {ys : List α} (hr : RdS f w B A' m c' ys)
    (hbytes : (n + m) * bytes ≤ 140737488355328) (hpos : 0 < bytes) (hbase : base ≤ w.heap.size)
    (h : ∀ A'' c'' w', OwS f w' base E A'' (n + m) c'' (xs ++ ys) → w.grownBy w' (rowOf A) → Below base w w' → (A'' = A ∨ A'' = some ⟨w.heap.size, 0, Option.none⟩) → wpList P ops Q rest (a.put o.dst (.slice A'' (n + m) c'')) w') : wpList P ops Q (o :: rest) a w := by
  obtain ⟨i, hi, hz, hsize, hby⟩ := el.info
  have h63 : n + m ≤ maxLen := by
    have := Nat.le_mul_of_pos_right (n + m) hpos
    simp only [maxLen]; omega
  obtain ⟨A'', c'', w', hrun, h2, h3, h4⟩ := run_append (P := P) (ty := o.type) (c' := c') el.ht hi hz hsize hby (by rw [el.cells]; rfl) (by omega) hown.ow (news := ys.map f) (by rw [List.length_map, hr.len]; omega) hr.rd (by
    intro u hu
    obtain ⟨y, _, rfl⟩ := List.mem_map.1 hu
    exact hf y) h63 hbytes hbase
  refine wl_run hw ?_ (h A'' c'' w' ⟨by rw [← List.map_append] at h2; exact h2⟩ h3 ((Below.refl _ _).grown h3 hbase hown.ow.row_ge) h4)
  simp only [execOp, ho, resolve, invoke, builtin, Sem.run_bind, Sem.run_pure, Result.andThen, List.map_toArray, List.map_cons, List.map_nil, hs, hx, hrun]
end
end Go.Th

/-! ### CertFirst -/
namespace Go.Proofs.Ytjambnlocjjjpaa
open Go.RowKit Go.Th
set_option linter.unusedVariables false
theorem bits_fin2 : ∀ m : Fin 256, (m.1 &&& 16 = 0 ∨ m.1 &&& 16 = 16) ∧ (m.1 &&& 32 = 0 ∨ m.1 &&& 32 = 32) := by decide +kernel
theorem z_cert : (Try.prog.info? 26).map (fun i => (i.zero.map Value.cells, i.size)) = some (some (Cv 0 none 0 0 0 none 0 0), 4) := by kernel_rfl
theorem fill_two (p q : Pt) : Instr.fill (fun i => some (i * 3, 3)) ((Array.range (2 * 3)).map ((Value.agg #[.int .u32 0, .int .u32 0, .slice none 0 0]).cells[· % (Value.agg #[.int .u32 0, .int .u32 0, .slice none 0 0]).cells.size]!)) [(0, Value.agg #[.int .u32 p.fr, .int .u32 p.to, .slice p.A p.n p.c]), (1, Value.agg #[.int .u32 q.fr, .int .u32 q.to, .slice q.A q.n q.c])] = some ([p, q].flatMap Pt.cs).toArray := by
  have e : (Array.range (2 * 3)).map ((Value.agg #[.int .u32 0, .int .u32 0, .slice none 0 0]).cells[· % (Value.agg #[.int .u32 0, .int .u32 0, .slice none 0 0]).cells.size]!) = #[.int .u32 0, .int .u32 0, .slice none 0 0, .int .u32 0, .int .u32 0, .slice none 0 0] := by kernel_rfl
  rw [e]
  simp [Instr.fill, Value.cells, Pt.cs]
/-- The certificate of CertFirst in memory. -/
structure FMem (w : World) (b g gp g0 g1 : Nat) (v : Int) (d : Int) (At : Option Addr) (nt ct : Nat) (tr : List Int) (p0 p1 : Pt) : Prop where
  box : Box w g 26 (Cv v (some ⟨gp, 0, none⟩) 2 2 d At nt ct)
  parts : OwM Pt.cs 3 w b 38 (some ⟨gp, 0, none⟩) 2 2 [p0, p1]
  r0 : OwS iv w b 3 (some ⟨g0, 0, none⟩) p0.n p0.c p0.rk
  r1 : OwS iv w b 3 (some ⟨g1, 0, none⟩) p1.n p1.c p1.rk
  a0 : p0.A = some ⟨g0, 0, none⟩
  a1 : p1.A = some ⟨g1, 0, none⟩
  tr : OwS iv w b 3 At nt ct tr
  trn : ∀ g', At = some ⟨g', 0, none⟩ → g' ≠ g
  ne : g ≠ gp ∧ g ≠ g0 ∧ g ≠ g1 ∧ gp ≠ g0 ∧ gp ≠ g1 ∧ g0 ≠ g1
  ge : b ≤ g
theorem parts_rk {w : World} {b n c : Nat} {e : TypeId} {A : Option Addr} {x0 y0 : Int} {A0 : Option Addr} {n0 c0 : Nat} {k0 : List Int} {x1 y1 : Int} {A1 : Option Addr} {n1 c1 : Nat} {k1 : List Int} (h : OwM Pt.cs 3 w b e A n c [⟨x0, y0, A0, n0, c0, k0⟩, ⟨x1, y1, A1, n1, c1, k1⟩]) (r0 r1 : List Int) : OwM Pt.cs 3 w b e A n c [⟨x0, y0, A0, n0, c0, r0⟩, ⟨x1, y1, A1, n1, c1, r1⟩] := ⟨h.ow, h.len⟩
theorem own_ne {g g' : Nat} (h : g ≠ g') : ∀ x, (some (⟨g, 0, none⟩ : Addr)) = some ⟨x, 0, none⟩ → (some g' : Option Nat) ≠ some x := fun x hA e => by
  injection e with e; injection hA with hA; injection hA with hA; omega
theorem box_ne {g g' : Nat} (h : g ≠ g') : (some g' : Option Nat) ≠ some g := fun e => by injection e with e; omega
/-- What is wrong, and what is told. -/
def FLaw (N AT : Nat) (v d : Int) (nt n0 : Nat) (rk0 : List Int) (fr1 : Int) (rk1 : List Int) (want : Int) : Prop :=
  (v = 1 ∧ d = 0 ∧ nt = 0 ∧ fr1 = AT ∧ n0 = N ∧ rk0 = List.replicate N 0 ∧ rk1 = List.replicate N 0 ∧ want = 0) ∨
  (v = 1 ∧ d = 0 ∧ nt = 0 ∧ fr1 = AT ∧ n0 = N ∧ rk0 = List.replicate N 0 ∧ rk1 = (List.replicate N (0 : Int)).set (N - 1) (N : Int) ∧ want = 16) ∨
  (v = 1 ∧ d = 0 ∧ nt = 0 ∧ fr1 = AT ∧ n0 = N + 1 ∧ want = 1) ∨
  (v = 1 ∧ d = 0 ∧ nt = 0 ∧ fr1 = (AT : Int) - 1 ∧ want = 15) ∨
  (v = 1 ∧ (d ≠ 0 ∨ nt ≠ 0) ∧ want = 3) ∨ (v < 0 ∧ want = 9)
theorem zeros_in {N : Nat} (hN : 1 ≤ N) : ∀ x ∈ List.replicate N (0 : Int), 0 ≤ x ∧ x < (N : Int) := fun x hx => by
  rw [(List.mem_replicate.1 hx).2]; omega
theorem FLaw.ok {N AT : Nat} {v d : Int} {nt n0 : Nat} {rk0 : List Int} {fr1 : Int} {rk1 : List Int} {want : Int} (h : FLaw N AT v d nt n0 rk0 fr1 rk1 want) (hN : 1 ≤ N) (hA1 : 1 ≤ AT) (hA2 : AT < 4294967296) (A0 A1 : Option Addr) (c0 : Nat) (tr : List Int) (htr : tr.length = nt) (h0 : rk0.length = n0) (h1 : rk1.length = N) :
    cmay v [⟨0, (AT : Int) - 1, A0, n0, c0, rk0⟩, ⟨fr1, 4294967295, A1, N, N, rk1⟩] d tr N = want := by
  have hm : fr1 = AT → meetF 0 [⟨0, (AT : Int) - 1, A0, n0, c0, rk0⟩, ⟨fr1, 4294967295, A1, N, N, rk1⟩] = true := fun e => by
    simp only [meetF, Bool.and_eq_true, decide_eq_true_eq]
    refine ⟨trivial, by omega, by omega, by omega, by omega⟩
  have hm2 : fr1 = (AT : Int) - 1 → meetF 0 [⟨0, (AT : Int) - 1, A0, n0, c0, rk0⟩, ⟨fr1, 4294967295, A1, N, N, rk1⟩] = false := fun e => by
    have : decide (fr1 = (AT : Int) - 1 + 1) = false := decide_eq_false (by omega)
    simp only [meetF, this, Bool.false_and, Bool.and_false]
  unfold cmay
  rcases h with ⟨rfl, rfl, rfl, rfl, rfl, rfl, rfl, rfl⟩ | ⟨rfl, rfl, rfl, rfl, rfl, rfl, rfl, rfl⟩ | ⟨rfl, rfl, rfl, rfl, rfl, rfl⟩ | ⟨rfl, rfl, rfl, rfl, rfl⟩ | ⟨rfl, hq, rfl⟩ | ⟨hv, rfl⟩
  · rw [if_pos rfl]
    unfold cfree
    rw [if_neg (by omega), if_neg (by simp), if_neg (by rw [hm rfl]; simp)]
    simp only [ranks]
    rw [if_neg (by omega), if_neg (by rw [any_outs_no (zeros_in hN)]; simp), if_neg (by omega), if_neg (by rw [any_outs_no (zeros_in hN)]; simp)]
  · rw [if_pos rfl]
    unfold cfree
    rw [if_neg (by omega), if_neg (by simp), if_neg (by rw [hm rfl]; simp)]
    simp only [ranks]
    have hmem : (n0 : Int) ∈ (List.replicate n0 (0 : Int)).set (n0 - 1) n0 := List.mem_of_getElem? (List.getElem?_set_self (i := n0 - 1) (by rw [List.length_replicate]; omega))
    rw [if_neg (by omega), if_neg (by rw [any_outs_no (zeros_in hN)]; simp), if_neg (by omega), if_pos (any_outs_yes hmem (Int.le_refl _))]
  · rw [if_pos rfl]
    unfold cfree
    rw [if_neg (by omega), if_neg (by simp), if_neg (by rw [hm rfl]; simp)]
    simp only [ranks]
    rw [if_pos (by omega)]
  · rw [if_pos rfl]
    unfold cfree
    rw [if_neg (by omega), if_neg (by simp), if_pos (hm2 rfl)]
  · rw [if_pos rfl]
    unfold cfree
    rw [if_pos (by omega)]
  · rw [if_neg (by omega), if_neg (by omega)]
def FRel (q : Int → Int → Nat → Int → Nat → List Int → Prop) (N AT b g : Nat) (w1 : World) (s11 : Value) (wx : World) : Prop :=
  ∃ (gp g0 g1 : Nat) (v d : Int) (At : Option Addr) (nt ct : Nat) (tr : List Int) (n0 c0 : Nat) (rk0 : List Int) (fr1 : Int) (rk1 : List Int) (want : Int), s11 = .int .i64 want ∧ FMem wx b g gp g0 g1 v d At nt ct tr ⟨0, (AT : Int) - 1, some ⟨g0, 0, none⟩, n0, c0, rk0⟩ ⟨fr1, 4294967295, some ⟨g1, 0, none⟩, N, N, rk1⟩ ∧ Below b w1 wx ∧ Hid (FLaw N AT v d nt n0 rk0 fr1 rk1 want) ∧ nt ≤ 1 ∧ Hid (∀ x ∈ tr, x = 0) ∧ Hid (nt = 0 → At = none ∧ ct = 0 ∧ tr = []) ∧ 1 ≤ n0 ∧ n0 ≤ 9 ∧ 0 ≤ fr1 ∧ fr1 ≤ 4294967295 ∧ q v d nt fr1 n0 rk0
end Go.Proofs.Ytjambnlocjjjpaa
