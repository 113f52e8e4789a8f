/-
  A map[int]bool that the call made, as the set of the numbers that were stored: look-up and store at the operation. Plain theorems over any program.
-/
import Derived.Test.YteellpcagdnikaaStore
import Derived.Maps.OwnOps
import Derived.Maps.OwnSet
import Derived.Maps.Keyed
namespace Go.Th
open Go.RowKit Go.Maps
/-- Block b is a map that holds just the numbers seen, each as true. -/
def SetB (w : World) (P : Program) (k e : TypeId) (b n : Nat) (seen : List Int) : Prop :=
  ∃ D : DataW Unit, w.ownsMap P k (plainElem P e) b n D ∧ ∀ x : Int, D.atKey (.int .i64 x) (.lit (.bool false)) = .lit (.bool (decide (x ∈ seen)))
theorem SetB.made (w : World) (P : Program) (k e : TypeId) : SetB (w.alloc (.map #[] 0)) P k e w.heap.size 0 [] :=
  ⟨.map [], World.ownsMap_made _ _ _ _, fun x => by simp [DataW.atKey]⟩
theorem SetB.kept {w w' : World} {P : Program} {k e : TypeId} {b n : Nat} {seen : List Int} (h : SetB w P k e b n seen) {row : Option Nat} (hg : w.grownBy w' row) (hne : some b ≠ row) : SetB w' P k e b n seen := by
  obtain ⟨D, h1, h2⟩ := h
  exact ⟨D, h1.kept hg hne, h2⟩
theorem plainElem_bool_inv {P : Program} {e : TypeId} (he : P.underlying e = some .bool) {v : Value} {c : Bool} {ps : List MemPlace} (h : plainElem (H := Unit) P e v = some (.lit (.bool c), ps)) : v = .bool c := by
  unfold plainElem at h
  rw [he] at h
  split at h
  · simp at h; rw [h.1]
  · rename_i hq; simp at hq
  · rename_i hq; simp at hq
  · simp at h
theorem wf_i64 {x : Int} (hx : -9223372036854775808 ≤ x ∧ x ≤ 9223372036854775807) : (Lit.int .i64 x).wf = true := by
  have h1 : IntKind.i64.min = -9223372036854775808 := by decide

  simp [Lit.wf]
  rw [h1]
  exact hx
theorem SetB.look {w : World} {P : Program} {k e t : TypeId} {b n : Nat} {seen : List Int} (h : SetB w P k e b n seen) (hk : P.underlying k = some (.int .i64)) (ht : P.underlying t = some (.map k e)) (he : P.underlying e = some .bool) (hz : (zeroValue e).run P w = .ok (.bool false) w)
    (x : Int) (hx : -9223372036854775808 ≤ x ∧ x ≤ 9223372036854775807) : (Instr.lookup t (.map (some b)) (.int .i64 x) false).run P w = .ok (.bool (decide (x ∈ seen))) w := by
  obtain ⟨D, h1, h2⟩ := h
  have hwf := wf_i64 hx
  obtain ⟨v, ps, hrun, hv⟩ := h1.lookup (Maps.int_keyed hk) ht hz (plainElem_bool he false) (Maps.keyOf_int_mk hk hwf)
  rw [h2 x] at hv
  rw [hrun, plainElem_bool_inv he hv]
section
variable {P : Program} {ops : Array Oper} {rest : List Oper} {o : Oper} {a : Act} {Q : Exit → Act → World → Prop} {w : World}
theorem wl_lookB (hw : Region.wanted o (yielded ops a.tmps) = true) (m y : Operand) (t : TypeId) (hop : o.op = .lookup t m y false) {k e : TypeId} (hk : P.underlying k = some (.int .i64)) (ht : P.underlying t = some (.map k e)) (he : P.underlying e = some .bool) (hz : ∀ w, (zeroValue e).run P w = .ok (.bool false) w)
    {b n : Nat} {seen : List Int} (hm : a.eval m = .map (some b)) (hs : SetB w P k e b n seen) {x : Int} (hy : a.eval y = .int .i64 x) (hx : -9223372036854775808 ≤ x ∧ x ≤ 9223372036854775807)
    (h : wpList P ops Q rest (a.put o.dst (.bool (decide (x ∈ seen)))) w) : wpList P ops Q (o :: rest) a w :=
  wl_run hw (by simp only [execOp, hop, hm, hy, Sem.run_bind, hs.look hk ht he (hz w) x hx, Result.andThen, Sem.run_pure]) h
theorem wl_storeB (hg : o.guard = none) (m y v : Operand) (t : TypeId) (hop : o.op = .mapUpdate t m y v) {k e : TypeId} (hk : P.underlying k = some (.int .i64)) (ht : P.underlying t = some (.map k e)) (he : P.underlying e = some .bool)
    {b n : Nat} {seen : List Int} (hm : a.eval m = .map (some b)) (hs : SetB w P k e b n seen) (hn : n < maxLen) {x : Int} (hy : a.eval y = .int .i64 x) (hx : -9223372036854775808 ≤ x ∧ x ≤ 9223372036854775807) (hv : a.eval v = .bool true)
    (h : ∀ w', SetB w' P k e b (n + 1) (seen ++ [x]) → w.grownBy w' (some b) → wpList P ops Q rest (a.put o.dst undef) w') : wpList P ops Q (o :: rest) a w := by
  obtain ⟨D, h1, h2⟩ := hs
  have hwf := wf_i64 hx
  refine wpList_mapUpdate_own w hg m y v t hop k e (Maps.int_keyed hk) ht _ b n D hm h1 hn _ _ (.int .i64 x) hy hv (Maps.keyOf_int_mk hk hwf) (.lit (.bool true)) [] (plainElem_bool he true) fun w' h3 h4 => h w' ⟨_, h3, fun z => ?_⟩ h4
  by_cases hzx : z = x
  · subst hzx
    rw [Maps.atKey_put_same h1.isMap (show WideAt.IsKeyLit (.int .i64 z) from trivial)]
    simp
  · rw [Maps.atKey_put_other (fun e => hzx (by injection e)), h2 z]
    simp [hzx]
theorem on_lookup (m y : Operand) {d t ok ty pos af g} (h : wpList P ops Q (⟨d, .lookup t m y ok, ty, pos, af, g⟩ :: rest) a w) : wpList P ops Q (⟨d, .lookup t m y ok, ty, pos, af, g⟩ :: rest) a w := h
theorem on_mapUpdate (m y v : Operand) {d t ty pos af g} (h : wpList P ops Q (⟨d, .mapUpdate t m y v, ty, pos, af, g⟩ :: rest) a w) : wpList P ops Q (⟨d, .mapUpdate t m y v, ty, pos, af, g⟩ :: rest) a w := h
end
end Go.Th
