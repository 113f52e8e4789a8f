/-
  A store of a whole element (of several cells) into a row of the call's own; guards for the arms of a quiet walk. Plain theorems over any program.
-/
import Derived.Test.YteellpcagdnikaaRuleAt
import Derived.Deep.MidRow
namespace Go.Th
open Go.RowKit
set_option linter.unusedVariables false
def setMany : List Value → Nat → List Value → List Value
  | xs, _, [] => xs
  | xs, o, v :: vs => setMany (xs.set o v) (o + 1) vs
theorem setMany_mid : ∀ (vs a b c : List Value), b.length = vs.length → setMany (a ++ b ++ c) a.length vs = a ++ vs ++ c
  | [], a, b, c, h => by
    have : b = [] := List.eq_nil_of_length_eq_zero h
    subst this
    rfl
  | v :: vs, a, [], c, h => by simp at h
  | v :: vs, a, b0 :: b, c, h => by
    have ih := setMany_mid vs (a ++ [v]) b c (by simpa using h)
    have e : (a ++ b0 :: b ++ c).set a.length v = a ++ [v] ++ b ++ c := by simp [List.append_assoc]
    rw [setMany, e]
    simpa [List.append_assoc] using ih
theorem setMany_flat {α : Type} {f : α → List Value} {k : Nat} (hf : ∀ x, (f x).length = k) {xs : List α} {i : Nat} (hi : i < xs.length) (r : α) : setMany (xs.flatMap f) (i * k) (f r) = (xs.set i r).flatMap f := by
  have e1 : xs = xs.take i ++ xs[i] :: xs.drop (i + 1) := by simp
  have e2 : xs.set i r = xs.take i ++ r :: xs.drop (i + 1) := List.set_eq_take_append_cons_drop.trans (if_pos hi)
  have e3 : ((xs.take i).flatMap f).length = i * k := by rw [flat_length hf, List.length_take, Nat.min_eq_left (Nat.le_of_lt hi)]
  have e4 : xs.flatMap f = (xs.take i).flatMap f ++ f xs[i] ++ (xs.drop (i + 1)).flatMap f := by
    have := congrArg (List.flatMap f) e1
    rw [List.flatMap_append, List.flatMap_cons] at this
    rw [List.append_assoc]
    exact this
  rw [e4, ← e3, setMany_mid _ _ _ _ (by rw [hf, hf]), e2, List.flatMap_append, List.flatMap_cons, List.append_assoc]
theorem grown_refl (w : World) (row : Option Nat) : w.grownBy w row := ⟨rfl, rfl, rfl, Nat.le_refl _, fun _ _ _ => rfl⟩
theorem grown_trans {a b c : World} {row : Option Nat} (h : a.grownBy b row) (h2 : b.grownBy c row) : a.grownBy c row :=
  ⟨h2.os.trans h.os, h2.tape.trans h.tape, h2.output.trans h.output, Nat.le_trans h.size h2.size, fun k hk hne => (h2.block k (Nat.lt_of_lt_of_le hk h.size) hne).trans (h.block k hk hne)⟩
theorem Ow.stores {base e k g n c : Nat} : ∀ (vs : List Value) {w : World} {xs : List Value} (o : Nat), Ow w base e k (some ⟨g, 0, none⟩) n c xs → Ow (w.setCells g o vs) base e k (some ⟨g, 0, none⟩) n c (setMany xs o vs) ∧ w.grownBy (w.setCells g o vs) (some g)
  | [], w, xs, o, h => ⟨h, grown_refl _ _⟩
  | v :: vs, w, xs, o, h => by
    obtain ⟨h1, h2⟩ := h.own.stored o v
    obtain ⟨h3, h4⟩ := Ow.stores vs (o + 1) (⟨h1⟩ : Ow (w.setCell ⟨g, o, none⟩ v) base e k (some ⟨g, 0, none⟩) n c (xs.set o v))
    exact ⟨h3, grown_trans h2 h4⟩
section
variable {P : Program} {ops : Array Oper} {rest : List Oper} {o : Oper} {a : Act} {Q : Exit → Act → World → Prop} {w : World}
theorem OwM.at0 {α : Type} {f : α → List Value} {k base e n c : Nat} {A : Option Addr} {xs : List α} (h : OwM f k w base e A n c xs) (hn : 0 < n) : ∃ g, A = some ⟨g, 0, none⟩ ∧ base ≤ g ∧ g < w.heap.size := by
  rcases h.ow.form with ⟨_, h0, _⟩ | ⟨g, hA, hb, hl⟩
  · omega
  · exact ⟨g, hA, hb, hl⟩
/-- &s[i] of a row of the call's own. -/
theorem wm_place (hw : Region.wanted o (yielded ops a.tmps) = true) (T : TypeId) (s i : Operand) (ho : o.op = .indexAddr T s i) {E bytes k : Nat} {z : Value} (el : ElM P T E z bytes k)
    {g n c : Nat} {kk : IntKind} {I : Int} (hs : a.eval s = .slice (some ⟨g, 0, none⟩) n c) (hi : a.eval i = .int kk I) (j : Nat) (hj : I = (j : Int) ∧ j < n)
    (h : wpList P ops Q rest (a.put o.dst (.pointer (some ⟨g, j * k, none⟩))) w) : wpList P ops Q (o :: rest) a w := by
  obtain ⟨rfl, hj⟩ := hj
  exact wl_index_own hw T s i ho el.ht el.size hs hi (by omega) (by omega) (by rw [Int.toNat_natCast]; exact h)
/-- s[i] = r, a whole element. -/
theorem wm_store (hw : Region.wanted o (yielded ops a.tmps) = true) (T : TypeId) (x y : Operand) (ho : o.op = .store T x y) {α : Type} {f : α → List Value} {k : Nat} (hf : ∀ x, (f x).length = k) (hs : (P.info? T).map (·.size) = some k)
    {g i n c base e : Nat} {xs : List α} (hx : a.eval x = .pointer (some ⟨g, i * k, none⟩)) (r : α) (hy : a.eval y = .agg (f r).toArray) (h1 : ∀ u ∈ f r, u.oneCell' = true)
    (hown : OwM f k w base e (some ⟨g, 0, none⟩) n c xs) (hi : i < n)
    (h : ∀ w', OwM f k w' base e (some ⟨g, 0, none⟩) n c (xs.set i r) → w.grownBy w' (some g) → Below base w w' → wpList P ops Q rest (a.put o.dst undef) w') : wpList P ops Q (o :: rest) a w := by
  have hl := hown.len
  obtain ⟨h2, h3⟩ := hown.ow.stores (f r) (i * k)
  rw [setMany_flat hf (by omega)] at h2
  have hbase : base ≤ g ∧ g < w.heap.size := by
    rcases hown.ow.form with ⟨e, _⟩ | ⟨g', e, hb, hlt⟩
    · cases e
    · injection e with e; injection e with e; subst e; exact ⟨hb, hlt⟩
  have ht : w.there g (i * k) (f r).toArray.size := fun j hj => by
    have hj' : j < k := by rw [← hf r]; simpa using hj
    have hlt : i * k + j < n * k := by
      have : (i + 1) * k ≤ n * k := Nat.mul_le_mul_right k hi
      rw [Nat.succ_mul] at this
      omega
    refine ⟨?_, hown.ow.own.frozenAt _⟩
    rw [hown.ow.own.cellAt _ hlt, List.getElem?_eq_getElem (by rw [flat_length hf, hl]; exact hlt)]
    rfl
  refine wl_run0 hw ?_ (h _ ⟨h2, by rw [List.length_set]; exact hl⟩ h3 ((Below.refl _ _).grown h3 (by omega) (fun k hk => by injection hk with hk; omega)))
  simp only [execOp, ho, hx, hy, Instr.storeAt, Instr.sureAddr, Sem.run_bind, Sem.run_pure, Result.andThen_ok, run_storeVar_mid w g (i * k) T (f r).toArray ht (by rw [hs]; simp [hf]) (all_oneCell_toArray h1)]
end
/-- A store's guard, by the place's operand. -/
theorem on_store_at {P : Program} {ops : Array Oper} {Q : Exit → Act → World → Prop} {rest : List Oper} {a : Act} {w : World} (x : Operand) {d T y ty pos af g} (h : wpList P ops Q (⟨d, .store T x y, ty, pos, af, g⟩ :: rest) a w) : wpList P ops Q (⟨d, .store T x y, ty, pos, af, g⟩ :: rest) a w := h
/-! ### Guards for the arms of a quiet walk. -/
section
variable {P : Program} {ops : Array Oper} {C : World → Prop} {Q : Act → Prop} {rest : List Oper} {a : Act}
theorem onq_slice (s : Operand) {d T lo hi mx ty pos af g} (h : wpQuiet P ops C Q (⟨d, .slice T s lo hi mx, ty, pos, af, g⟩ :: rest) a) : wpQuiet P ops C Q (⟨d, .slice T s lo hi mx, ty, pos, af, g⟩ :: rest) a := h
theorem onq_index (s : Operand) {d T i ty pos af g} (h : wpQuiet P ops C Q (⟨d, .indexAddr T s i, ty, pos, af, g⟩ :: rest) a) : wpQuiet P ops C Q (⟨d, .indexAddr T s i, ty, pos, af, g⟩ :: rest) a := h
theorem onq_load (x : Operand) {d T ty pos af g} (h : wpQuiet P ops C Q (⟨d, .load T x, ty, pos, af, g⟩ :: rest) a) : wpQuiet P ops C Q (⟨d, .load T x, ty, pos, af, g⟩ :: rest) a := h
theorem onq_convert (x : Operand) {d src dst ty pos af g} (h : wpQuiet P ops C Q (⟨d, .convert src dst x, ty, pos, af, g⟩ :: rest) a) : wpQuiet P ops C Q (⟨d, .convert src dst x, ty, pos, af, g⟩ :: rest) a := h
end
end Go.Th
