/-
  Laid together by wip/tools/merge.py out of: OpenRule.
-/
import Derived.Deep.Slices
import Derived.Deep.Fields
import Derived.Lib.SmallJoins
import Derived.Test.YtgapcmodhcdebaaNfMa
import Derived.Test.YtgapcmodhcdebaaNfMb
import Derived.Test.YtgapcmodhcdebaaNfMe

/-! ### OpenRule -/
namespace Go.Th
open Go.ChangeShapes Go.WideShapes Go.ChangeAt Go.RowKit Go.Deep Go.Joins
/-- A type of rules. -/
structure RuleT (P : Program) (t : TypeId) : Prop where
  fields : ∃ f0 f1 f2 f3 : Field, P.underlying t = some (.struct #[f0, f1, f2, f3]) ∧ oneCellFields P #[f0, f1, f2, f3] = true ∧
    P.underlying f0.type = some (.int .u32) ∧ P.underlying f1.type = some (.int .i64) ∧ P.underlying f2.type = some (.int .i64) ∧ P.underlying f3.type = some (.int .i64)
  cells : P.cellsOf t = 4
section
variable {H : Type} {enc : TypeId × Value → H} {P : Program} {w : World} {base : Nat} {spare : Nat → Bool} {held : Bool} {r : Go.Reach} {b0 : Nat} {t e : TypeId} {v : Value} {d : DataW H} {p : List MemPlace}
theorem trod_rule (rt : RuleT P t) {fuel : Nat} {cs : List Value} {x : DataW H × List MemPlace} (h : DataW.trod enc P w base spare held fuel t cs = some x) : ∃ r : Ru, cs = r.cs ∧ r.Ok := by
  obtain ⟨f0, f1, f2, f3, hs, hone, u0, u1, u2, u3⟩ := rt.fields
  obtain ⟨xs, n, _, _, hlen, hxl, hf⟩ := DataW.trod_struct hs h
  rw [rt.cells] at hlen
  have key : ∀ (i : Nat) (f : Field) (k : IntKind), (#[f0, f1, f2, f3] : Array Field)[i]? = some f → P.underlying f.type = some (.int k) → ∃ z, (cs.drop i).take 1 = [.int k z] ∧ (Lit.int k z).wf = true := by
    intro i f k hi hu
    obtain ⟨o, c⟩ := hone_of hone i f hi
    have h1 := hf i f hi
    rw [o, c] at h1
    have hil : i < xs.length := by rw [hxl]; exact (Array.getElem?_eq_some_iff.1 hi).1
    rw [List.getElem?_eq_getElem hil] at h1
    obtain ⟨z, hz, _, hw⟩ := DataW.trod_int hu h1
    exact ⟨z, hz, hw⟩
  match cs, hlen with
  | [c0, c1, c2, c3], _ =>
    obtain ⟨z0, e0, w0⟩ := key 0 f0 .u32 rfl u0
    obtain ⟨z1, e1, w1⟩ := key 1 f1 .i64 rfl u1
    obtain ⟨z2, e2, w2⟩ := key 2 f2 .i64 rfl u2
    obtain ⟨z3, e3, w3⟩ := key 3 f3 .i64 rfl u3
    simp at e0 e1 e2 e3
    subst e0 e1 e2 e3
    exact ⟨⟨z0, z1, z2, z3⟩, rfl, ⟨bounds_u32 w0, bounds_i64 w1, bounds_i64 w2, bounds_i64 w3⟩⟩
/-- A rule. -/
theorem open_rule (rt : RuleT P t) (hv : Value.okWide P w r b0 t v) (h : DataW.Trod enc P w base spare held t v d p) : ∃ x : Ru, v = x.v ∧ x.Ok := by
  obtain ⟨f0, f1, f2, f3, hs, _⟩ := rt.fields
  obtain ⟨cs, rfl, hsz⟩ := okWide_struct hs hv
  obtain ⟨fuel, hf⟩ := h
  obtain ⟨x, hx, hok⟩ := trod_rule rt hf
  refine ⟨x, ?_, hok⟩
  simp only [Value.cells] at hx
  show Value.agg cs = Value.agg x.cs.toArray
  rw [← hx]
/-- A slice of rules. -/
theorem open_slice_rules (rt : RuleT P e) (ht : P.underlying t = some (.slice e)) (hv : Value.okWide P w r b0 t v) (h : DataW.Trod enc P w base spare held t v d p) :
    ∃ A n c xs, v = .slice A n c ∧ RdM Ru.cs w w.heap.size A n c xs ∧ n ≤ 9223372036854775807 ∧ ∀ x ∈ xs, x.Ok := by
  obtain ⟨a, n, c, rfl⟩ := okWide_slice ht hv
  obtain ⟨fuel, hf⟩ := h
  rcases open_slice ht hf with ⟨hcs, _⟩ | ⟨x, l, c', m, n', D, Pl, hcs, _, hl, hm, hmm, _, hcell⟩
  · simp only [Value.cells, List.cons.injEq, and_true, Value.slice.injEq] at hcs
    obtain ⟨rfl, rfl, rfl⟩ := hcs
    exact ⟨none, 0, 0, [], rfl, RdM.nil _ _, by omega, by simp⟩
  · simp only [Value.cells, List.cons.injEq, and_true, Value.slice.injEq] at hcs
    obtain ⟨rfl, rfl, rfl⟩ := hcs
    rw [rt.cells] at hcell
    have hnm : n ≤ m := by rw [hmm]; split <;> omega
    have each : ∀ i, i < n → ∃ r : Ru, r.Ok ∧ ∀ j u, r.cs[j]? = some u → w.cell? (x.add (i * 4 + j)) = some u := by
      intro i hi
      obtain ⟨cs', hc, htr⟩ := hcell i (by omega)
      obtain ⟨r, rfl, hok⟩ := trod_rule rt htr
      obtain ⟨_, _, hat⟩ := World.cells?_some hc
      refine ⟨r, hok, fun j u hu => ?_⟩
      have hj : j < 4 := (List.getElem?_eq_some_iff.1 hu).1
      have := hat j hj
      rw [← Go.Deep.add_add, this, hu]
    have build : ∀ k, k ≤ n → ∃ xs : List Ru, xs.length = k ∧ (∀ r ∈ xs, r.Ok) ∧ ∀ i r, xs[i]? = some r → ∀ j u, r.cs[j]? = some u → w.cell? (x.add (i * 4 + j)) = some u := by
      intro k
      induction k with
      | zero => intro _; exact ⟨[], rfl, by simp, by simp⟩
      | succ k ih =>
        intro hk
        obtain ⟨xs, h1, h2, h3⟩ := ih (by omega)
        obtain ⟨r, hr, hc⟩ := each k (by omega)
        refine ⟨xs ++ [r], by simp [h1], fun s hs => ?_, fun i s hi => ?_⟩
        · rcases List.mem_append.1 hs with hs | hs
          · exact h2 s hs
          · rw [List.mem_singleton.1 hs]; exact hr
        · rcases Nat.lt_trichotomy i k with h | h | h
          · rw [List.getElem?_append_left (by omega)] at hi; exact h3 i s hi
          · subst h
            rw [List.getElem?_append_right (by omega), h1, Nat.sub_self] at hi
            injection hi with hi
            subst hi
            exact hc
          · rw [List.getElem?_eq_none (by simp; omega)] at hi; cases hi
    obtain ⟨xs, h1, h2, h3⟩ := build n (Nat.le_refl _)
    refine ⟨some x, n, c, xs, rfl, ⟨⟨fun j u hu => ?_⟩, h1, hl⟩, by simp only [maxLen] at hm; omega, h2⟩
    have hjl : j < n * 4 := by
      have := (List.getElem?_eq_some_iff.1 hu).1
      rwa [flat_length Ru.cs_length, h1] at this
    have hq : j / 4 < xs.length := by omega
    have e1 := flat_get Ru.cs_length (List.getElem?_eq_getElem hq) (j := j % 4) (by omega)
    rw [show j / 4 * 4 + j % 4 = j by omega, hu] at e1
    have hc := h3 (j / 4) _ (List.getElem?_eq_getElem hq) (j % 4) u e1.symm
    rw [show j / 4 * 4 + j % 4 = j by omega] at hc
    have hc0 := h3 0 _ (List.getElem?_eq_getElem (show 0 < xs.length by omega)) 0 _ rfl
    obtain ⟨b, off, spot⟩ := x
    have hspot : spot = none := by simpa [Addr.add] using World.cell?_spot hc0
    subst hspot
    rw [Addr.add_lit] at hc
    exact ⟨b, off, rfl, World.block_lt_of_cell? w ⟨b, off + j, none⟩ hc, hc⟩
end
end Go.Th
