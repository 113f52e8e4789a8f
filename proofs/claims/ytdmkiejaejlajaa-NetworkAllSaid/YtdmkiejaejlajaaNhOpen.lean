/-
  How an argument that came in is opened: a network. Plain theorems over any program.
-/
import Derived.Test.YtdmkiejaejlajaaNhMc
import Derived.Test.YtdmkiejaejlajaaNhMem
namespace Go.Th
open Go.ChangeShapes Go.WideShapes Go.ChangeAt Go.RowKit Go.Deep Go.Joins
set_option linter.unusedVariables false
section
variable {H : Type} {enc : TypeId × Value → H} {P : Program} {w : World} {base : Nat} {spare : Nat → Bool} {held : Bool} {r : Go.Reach} {b0 : Nat} {t e : TypeId} {v : Value} {d : DataW H} {p : List MemPlace}
/-- A slice of elements of k cells each, wherever it lies. -/
theorem trod_slice_gen {α : Type} {f : α → List Value} {k : Nat} (hf : ∀ x, (f x).length = k) (hk : 0 < k) {R : α → Prop} (hc : P.cellsOf e = k)
    (hel : ∀ (spare : Nat → Bool) (held : Bool) (fuel : Nat) (cs : List Value) (x : DataW H × List MemPlace), DataW.trod enc P w base spare held fuel e cs = some x → ∃ r : α, cs = f r ∧ R r)
    (ht : P.underlying t = some (.slice e)) {fuel : Nat} {cs : List Value} {x : DataW H × List MemPlace} (h : DataW.trod enc P w base spare held fuel t cs = some x) :
    ∃ A n c xs, cs = [.slice A n c] ∧ RdM f w w.heap.size A n c xs ∧ n ≤ 9223372036854775807 ∧ ∀ x ∈ xs, R x := by
  obtain ⟨D, Pl⟩ := x
  rcases open_slice ht h with ⟨hcs, _⟩ | ⟨x, n, c, m, n', D, Pl, hcs, _, hl, hm, hmm, _, hcell⟩
  · exact ⟨none, 0, 0, [], hcs, RdM.nil _ _, by omega, by simp⟩
  · rw [hc] at hcell
    have hnm : n ≤ m := by rw [hmm]; split <;> omega
    have each : ∀ i, i < n → ∃ r : α, R r ∧ ∀ j u, (f r)[j]? = some u → w.cell? (x.add (i * k + j)) = some u := by
      intro i hi
      obtain ⟨cs', hc, htr⟩ := hcell i (by omega)
      obtain ⟨r, rfl, hok⟩ := hel _ _ _ _ _ htr
      obtain ⟨_, _, hat⟩ := World.cells?_some hc
      refine ⟨r, hok, fun j u hu => ?_⟩
      have hj : j < k := by rw [← hf r]; exact (List.getElem?_eq_some_iff.1 hu).1
      have := hat j hj
      rw [← Go.Deep.add_add, this, hu]
    have build : ∀ m, m ≤ n → ∃ xs : List α, xs.length = m ∧ (∀ r ∈ xs, R r) ∧ ∀ i r, xs[i]? = some r → ∀ j u, (f r)[j]? = some u → w.cell? (x.add (i * k + j)) = some u := by
      intro m
      induction m with
      | zero => intro _; exact ⟨[], rfl, by simp, by simp⟩
      | succ m ih =>
        intro hk
        obtain ⟨xs, h1, h2, h3⟩ := ih (by omega)
        obtain ⟨r, hr, hc⟩ := each m (by omega)
        refine ⟨xs ++ [r], by simp [h1], fun s hs => ?_, fun i s hi => ?_⟩
        · rcases List.mem_append.1 hs with hs | hs
          · exact h2 s hs
          · rw [List.mem_singleton.1 hs]; exact hr
        · rcases Nat.lt_trichotomy i m with h | h | h
          · rw [List.getElem?_append_left (by omega)] at hi; exact h3 i s hi
          · subst h
            rw [List.getElem?_append_right (by omega), h1, Nat.sub_self] at hi
            injection hi with hi
            subst hi
            exact hc
          · rw [List.getElem?_eq_none (by simp; omega)] at hi; cases hi
    obtain ⟨xs, h1, h2, h3⟩ := build n (Nat.le_refl _)
    refine ⟨some x, n, c, xs, hcs, ⟨⟨fun j u hu => ?_⟩, h1, hl⟩, by simp only [maxLen] at hm; omega, h2⟩
    have hjl : j < n * k := by
      have := (List.getElem?_eq_some_iff.1 hu).1
      rwa [flat_length hf, h1] at this
    have hq : j / k < xs.length := by rw [h1]; exact Nat.div_lt_of_lt_mul (by rw [Nat.mul_comm]; exact hjl)
    have ej : j / k * k + j % k = j := by rw [Nat.mul_comm]; exact Nat.div_add_mod j k
    have hjk : j % k < k := Nat.mod_lt _ hk
    have e1 := flat_get hf (List.getElem?_eq_getElem hq) hjk
    rw [ej, hu] at e1
    have hc := h3 (j / k) _ (List.getElem?_eq_getElem hq) (j % k) u e1.symm
    rw [ej] at hc
    have h0l : 0 < xs.length := Nat.lt_of_le_of_lt (Nat.zero_le _) hq
    obtain ⟨u0, hu0⟩ : ∃ u, (f xs[0])[0]? = some u := ⟨(f xs[0])[0]'(by rw [hf]; exact hk), List.getElem?_eq_getElem _⟩
    have hc0 := h3 0 _ (List.getElem?_eq_getElem h0l) 0 _ hu0
    obtain ⟨b, off, spot⟩ := x
    have hspot : spot = none := by simpa [Addr.add] using World.cell?_spot hc0
    subst hspot
    rw [Addr.add_lit] at hc
    exact ⟨b, off, rfl, World.block_lt_of_cell? w ⟨b, off + j, none⟩ hc, hc⟩
/-- A type of networks. -/
structure NetT (P : Program) (t : TypeId) : Prop where
  fields : ∃ f0 : Field, P.underlying t = some (.struct #[f0]) ∧ oneCellFields P #[f0] = true ∧ ∃ e1, P.underlying f0.type = some (.slice e1) ∧ P.cellsOf e1 = 1 ∧ ∃ e2, P.underlying e1 = some (.slice e2) ∧ RuleT P e2
  cells : P.cellsOf t = 1
/-- What is known of a network that came in. -/
structure NetIn (w : World) (A : Option Addr) (n c : Nat) (ns : List Nd) : Prop where
  rd : NRd w w.heap.size A n c ns
  n : n ≤ 9223372036854775807
  each : ∀ x ∈ ns, x.n ≤ 9223372036854775807
theorem trod_rules {e2 : TypeId} (rt : RuleT P e2) (ht : P.underlying e = some (.slice e2)) {fuel : Nat} {cs : List Value} {x : DataW H × List MemPlace} (h : DataW.trod enc P w base spare held fuel e cs = some x) :
    ∃ nd : Nd, cs = one1 sv nd ∧ (RdM Ru.cs w w.heap.size nd.A nd.n nd.c nd.l ∧ nd.n ≤ 9223372036854775807 ∧ ∀ r ∈ nd.l, r.Ok) := by
  obtain ⟨A, n, c, xs, hcs, hr, hn, hok⟩ := trod_slice_gen (f := Ru.cs) (k := 4) (R := Ru.Ok) Ru.cs_length (by omega) rt.cells (fun spare held fuel cs x h => trod_rule rt h) ht h
  exact ⟨⟨A, n, c, xs⟩, hcs, hr, hn, hok⟩
theorem open_net (nt : NetT P t) (hv : Value.okWide P w r b0 t v) (h : DataW.Trod enc P w base spare held t v d p) :
    ∃ A n c ns, v = .agg #[.slice A n c] ∧ NetIn w A n c ns := by
  obtain ⟨f0, hs, hone, e1, u1, c1, e2, u2, rt⟩ := nt.fields
  obtain ⟨cs, rfl, hsz⟩ := okWide_struct hs hv
  obtain ⟨fuel, hf⟩ := h
  obtain ⟨xs, n, _, _, hlen, hxl, hf⟩ := DataW.trod_struct hs hf
  rw [nt.cells] at hlen
  obtain ⟨l⟩ := cs
  simp only [Value.cells] at hlen hf
  have sub : ∃ m y, DataW.trod enc P w base spare held m f0.type ((l.drop 0).take 1) = some y := by
    obtain ⟨o, c⟩ := hone_of hone 0 f0 rfl
    have h1 := hf 0 f0 rfl
    rw [o, c] at h1
    have hil : 0 < xs.length := by rw [hxl]; exact Nat.zero_lt_one
    rw [List.getElem?_eq_getElem hil] at h1
    exact ⟨_, _, h1⟩
  match l, hlen with
  | [c0], _ =>
    obtain ⟨m0, y0, h0⟩ := sub
    obtain ⟨A, n, c, ns, hcs, hr, hn, hall⟩ := trod_slice_gen (f := one1 sv) (k := 1) (R := fun nd : Nd => RdM Ru.cs w w.heap.size nd.A nd.n nd.c nd.l ∧ nd.n ≤ 9223372036854775807 ∧ ∀ r ∈ nd.l, r.Ok) (one1_len sv) (by omega) c1 (fun spare held fuel cs x h => trod_rules rt u2 h) u1 h0
    simp at hcs
    subst hcs
    exact ⟨A, n, c, ns, rfl, ⟨⟨⟨by rw [← flat_one1]; exact hr.rd, hr.len, hr.cap⟩, fun x hx => (hall x hx).1, fun x hx => (hall x hx).2.2⟩, hn, fun x hx => (hall x hx).2.1⟩⟩
end
end Go.Th
