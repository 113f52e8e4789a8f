/-
  How an argument that came in is opened: slices within structs; a certificate. Plain theorems over any program.
-/
import Derived.Test.YteellpcagdnikaaOpenRule
import Derived.Test.YteellpcagdnikaaPartMem
namespace Go.Th
open Go.ChangeShapes Go.WideShapes Go.ChangeAt Go.RowKit Go.Deep Go.Joins
set_option linter.unusedVariables false
section
variable {H : Type} {enc : TypeId × Value → H} {P : Program} {w : World} {base : Nat} {spare : Nat → Bool} {held : Bool} {r : Go.Reach} {b0 : Nat} {t e : TypeId} {v : Value} {d : DataW H} {p : List MemPlace}
/-- A slice of whole numbers, wherever it lies. -/
theorem trod_slice_ints {k : IntKind} (ht : P.underlying t = some (.slice e)) (he : P.underlying e = some (.int k)) (hc : P.cellsOf e = 1) {fuel : Nat} {cs : List Value} {x : DataW H × List MemPlace} (hf : DataW.trod enc P w base spare held fuel t cs = some x) :
    ∃ A n c zs, cs = [.slice A n c] ∧ RdS (Value.int k) w w.heap.size A n c zs ∧ n ≤ 9223372036854775807 ∧ ∀ z ∈ zs, (Lit.int k z).wf = true := by
  obtain ⟨D, Pl⟩ := x
  rcases open_ints ht he hc hf with ⟨hcs, _⟩ | ⟨x, l, c', zs, hcs, _, hl, hm, hz, _, hcell, hwz⟩
  · exact ⟨none, 0, 0, [], hcs, RdS.nil _ _, by omega, by simp⟩
  · have hzl : l ≤ zs.length := by rw [hz]; split <;> omega
    have hadd : ∀ j u, (zs.take l)[j]? = some u → ∃ b o, some x = some ⟨b, o, none⟩ ∧ b < w.heap.size ∧ w.cell? ⟨b, o + j, none⟩ = some (.int k u) := by
      intro j u hu
      rw [List.getElem?_take] at hu
      split at hu
      · have hjl : j < zs.length := by omega
        have hj := hcell j hjl
        have h0 := hcell 0 (by omega)
        obtain ⟨b, off, spot⟩ := x
        have hspot : spot = none := by simpa [Addr.add] using World.cell?_spot h0
        subst hspot
        have hu' : zs.getD j 0 = u := by rw [List.getD_eq_getElem?_getD, hu]; rfl
        rw [Addr.add_lit, hu'] at hj
        exact ⟨b, off, rfl, World.block_lt_of_cell? w ⟨b, off + j, none⟩ hj, hj⟩
      · cases hu
    refine ⟨some x, l, c', zs.take l, hcs, ⟨⟨fun j u hu => ?_⟩, by rw [List.length_take]; omega, hl⟩, by simp only [maxLen] at hm; omega, fun z hz => hwz z (List.mem_of_mem_take hz)⟩
    rw [List.getElem?_map] at hu
    cases hj : (zs.take l)[j]? with
    | none => rw [hj] at hu; cases hu
    | some y =>
      rw [hj] at hu
      injection hu with hu
      subst hu
      exact hadd j y hj
/-- A slice of elements of k cells each, wherever it lies. -/
theorem trod_slice_gen {α : Type} {f : α → List Value} {k : Nat} (hf : ∀ x, (f x).length = k) (hk : 0 < k) {R : α → Prop} (hc : P.cellsOf e = k)
    (hel : ∀ (spare : Nat → Bool) (held : Bool) (fuel : Nat) (cs : List Value) (x : DataW H × List MemPlace), DataW.trod enc P w base spare held fuel e cs = some x → ∃ r : α, cs = f r ∧ R r)
    (ht : P.underlying t = some (.slice e)) {fuel : Nat} {cs : List Value} {x : DataW H × List MemPlace} (h : DataW.trod enc P w base spare held fuel t cs = some x) :
    ∃ A n c xs, cs = [.slice A n c] ∧ RdM f w w.heap.size A n c xs ∧ n ≤ 9223372036854775807 ∧ ∀ x ∈ xs, R x := by
  obtain ⟨D, Pl⟩ := x
  rcases open_slice ht h with ⟨hcs, _⟩ | ⟨x, n, c, m, n', D, Pl, hcs, _, hl, hm, hmm, _, hcell⟩
  · exact ⟨none, 0, 0, [], hcs, RdM.nil _ _, by omega, by simp⟩
  · rw [hc] at hcell
    have hnm : n ≤ m := by rw [hmm]; split <;> omega
    have each : ∀ i, i < n → ∃ r : α, R r ∧ ∀ j u, (f r)[j]? = some u → w.cell? (x.add (i * k + j)) = some u := by
      intro i hi
      obtain ⟨cs', hc, htr⟩ := hcell i (by omega)
      obtain ⟨r, rfl, hok⟩ := hel _ _ _ _ _ htr
      obtain ⟨_, _, hat⟩ := World.cells?_some hc
      refine ⟨r, hok, fun j u hu => ?_⟩
      have hj : j < k := by rw [← hf r]; exact (List.getElem?_eq_some_iff.1 hu).1
      have := hat j hj
      rw [← Go.Deep.add_add, this, hu]
    have build : ∀ m, m ≤ n → ∃ xs : List α, xs.length = m ∧ (∀ r ∈ xs, R r) ∧ ∀ i r, xs[i]? = some r → ∀ j u, (f r)[j]? = some u → w.cell? (x.add (i * k + j)) = some u := by
      intro m
      induction m with
      | zero => intro _; exact ⟨[], rfl, by simp, by simp⟩
      | succ m ih =>
        intro hk
        obtain ⟨xs, h1, h2, h3⟩ := ih (by omega)
        obtain ⟨r, hr, hc⟩ := each m (by omega)
        refine ⟨xs ++ [r], by simp [h1], fun s hs => ?_, fun i s hi => ?_⟩
        · rcases List.mem_append.1 hs with hs | hs
          · exact h2 s hs
          · rw [List.mem_singleton.1 hs]; exact hr
        · rcases Nat.lt_trichotomy i m with h | h | h
          · rw [List.getElem?_append_left (by omega)] at hi; exact h3 i s hi
          · subst h
            rw [List.getElem?_append_right (by omega), h1, Nat.sub_self] at hi
            injection hi with hi
            subst hi
            exact hc
          · rw [List.getElem?_eq_none (by simp; omega)] at hi; cases hi
    obtain ⟨xs, h1, h2, h3⟩ := build n (Nat.le_refl _)
    refine ⟨some x, n, c, xs, hcs, ⟨⟨fun j u hu => ?_⟩, h1, hl⟩, by simp only [maxLen] at hm; omega, h2⟩
    have hjl : j < n * k := by
      have := (List.getElem?_eq_some_iff.1 hu).1
      rwa [flat_length hf, h1] at this
    have hq : j / k < xs.length := by rw [h1]; exact Nat.div_lt_of_lt_mul (by rw [Nat.mul_comm]; exact hjl)
    have ej : j / k * k + j % k = j := by rw [Nat.mul_comm]; exact Nat.div_add_mod j k
    have hjk : j % k < k := Nat.mod_lt _ hk
    have e1 := flat_get hf (List.getElem?_eq_getElem hq) hjk
    rw [ej, hu] at e1
    have hc := h3 (j / k) _ (List.getElem?_eq_getElem hq) (j % k) u e1.symm
    rw [ej] at hc
    have h0l : 0 < xs.length := Nat.lt_of_le_of_lt (Nat.zero_le _) hq
    obtain ⟨u0, hu0⟩ : ∃ u, (f xs[0])[0]? = some u := ⟨(f xs[0])[0]'(by rw [hf]; exact hk), List.getElem?_eq_getElem _⟩
    have hc0 := h3 0 _ (List.getElem?_eq_getElem h0l) 0 _ hu0
    obtain ⟨b, off, spot⟩ := x
    have hspot : spot = none := by simpa [Addr.add] using World.cell?_spot hc0
    subst hspot
    rw [Addr.add_lit] at hc
    exact ⟨b, off, rfl, World.block_lt_of_cell? w ⟨b, off + j, none⟩ hc, hc⟩
/-- A type of parts. -/
structure PartT (P : Program) (t : TypeId) : Prop where
  fields : ∃ f0 f1 f2 : Field, P.underlying t = some (.struct #[f0, f1, f2]) ∧ oneCellFields P #[f0, f1, f2] = true ∧
    P.underlying f0.type = some (.int .u32) ∧ P.underlying f1.type = some (.int .u32) ∧ ∃ e, P.underlying f2.type = some (.slice e) ∧ P.underlying e = some (.int .i64) ∧ P.cellsOf e = 1
  cells : P.cellsOf t = 3
def i64Bd (z : Int) : Prop := -9223372036854775808 ≤ z ∧ z ≤ 9223372036854775807
/-- What is known of a part that came in. -/
structure PtIn (w : World) (p : Pt) : Prop where
  ok : p.Ok
  rd : RdS iv w w.heap.size p.A p.n p.c p.rk
  n : p.n ≤ 9223372036854775807
  bd : ∀ z ∈ p.rk, i64Bd z
theorem trod_part (rt : PartT P t) {fuel : Nat} {cs : List Value} {x : DataW H × List MemPlace} (h : DataW.trod enc P w base spare held fuel t cs = some x) : ∃ p : Pt, cs = p.cs ∧ PtIn w p := by
  obtain ⟨f0, f1, f2, hs, hone, u0, u1, e2, u2, u2e, u2c⟩ := rt.fields
  obtain ⟨xs, n, _, _, hlen, hxl, hf⟩ := DataW.trod_struct hs h
  rw [rt.cells] at hlen
  have sub : ∀ (i : Nat) (f : Field), (#[f0, f1, f2] : Array Field)[i]? = some f → ∃ m y, DataW.trod enc P w base spare held m f.type ((cs.drop i).take 1) = some y := by
    intro i f hi
    obtain ⟨o, c⟩ := hone_of hone i f hi
    have h1 := hf i f hi
    rw [o, c] at h1
    have hil : i < xs.length := by rw [hxl]; exact (Array.getElem?_eq_some_iff.1 hi).1
    rw [List.getElem?_eq_getElem hil] at h1
    exact ⟨_, _, h1⟩
  match cs, hlen with
  | [c0, c1, c2], _ =>
    obtain ⟨m0, y0, h0⟩ := sub 0 f0 rfl
    obtain ⟨m1, y1, h1⟩ := sub 1 f1 rfl
    obtain ⟨m2, y2, h2⟩ := sub 2 f2 rfl
    obtain ⟨z0, e0, _, w0⟩ := DataW.trod_int u0 h0
    obtain ⟨z1, e1, _, w1⟩ := DataW.trod_int u1 h1
    obtain ⟨A, nn, c, zs, e3, hr, hm, hw⟩ := trod_slice_ints u2 u2e u2c h2
    simp at e0 e1 e3
    subst e0 e1 e3
    exact ⟨⟨z0, z1, A, nn, c, zs⟩, rfl, ⟨bounds_u32 w0, bounds_u32 w1⟩, hr, hm, fun z hz => bounds_i64 (hw z hz)⟩
/-- A type of certificates. -/
structure CertT (P : Program) (t : TypeId) : Prop where
  fields : ∃ f0 f1 f2 f3 : Field, P.underlying t = some (.struct #[f0, f1, f2, f3]) ∧ oneCellFields P #[f0, f1, f2, f3] = true ∧
    P.underlying f0.type = some (.int .i64) ∧ (∃ e, P.underlying f1.type = some (.slice e) ∧ PartT P e) ∧ P.underlying f2.type = some (.int .u32) ∧ ∃ e, P.underlying f3.type = some (.slice e) ∧ P.underlying e = some (.int .i64) ∧ P.cellsOf e = 1
  cells : P.cellsOf t = 4
/-- What is known of a certificate that came in. -/
structure CertIn (w : World) (v : Int) (Ap : Option Addr) (np cp : Nat) (d : Int) (At : Option Addr) (nt ct : Nat) (ps : List Pt) (tr : List Int) : Prop where
  vb : i64Bd v
  parts : PRd w w.heap.size Ap np cp ps
  npb : np ≤ 9223372036854775807
  each : ∀ p ∈ ps, p.n ≤ 9223372036854775807 ∧ ∀ z ∈ p.rk, i64Bd z
  db : 0 ≤ d ∧ d ≤ 4294967295
  trd : RdS iv w w.heap.size At nt ct tr
  ntb : nt ≤ 9223372036854775807
  trb : ∀ z ∈ tr, i64Bd z
theorem open_cert (rt : CertT P t) (hv : Value.okWide P w r b0 t v) (h : DataW.Trod enc P w base spare held t v d p) :
    ∃ x Ap np cp dd At nt ct ps tr, v = .agg #[.int .i64 x, .slice Ap np cp, .int .u32 dd, .slice At nt ct] ∧ CertIn w x Ap np cp dd At nt ct ps tr := by
  obtain ⟨f0, f1, f2, f3, hs, hone, u0, ⟨e1, u1, pt⟩, u2, e3, u3, u3e, u3c⟩ := rt.fields
  obtain ⟨cs, rfl, hsz⟩ := okWide_struct hs hv
  obtain ⟨fuel, hf⟩ := h
  obtain ⟨xs, n, _, _, hlen, hxl, hf⟩ := DataW.trod_struct hs hf
  rw [rt.cells] at hlen
  obtain ⟨l⟩ := cs
  simp only [Value.cells] at hlen hf
  have sub : ∀ (i : Nat) (f : Field), (#[f0, f1, f2, f3] : Array Field)[i]? = some f → ∃ m y, DataW.trod enc P w base spare held m f.type ((l.drop i).take 1) = some y := by
    intro i f hi
    obtain ⟨o, c⟩ := hone_of hone i f hi
    have h1 := hf i f hi
    rw [o, c] at h1
    have hil : i < xs.length := by rw [hxl]; exact (Array.getElem?_eq_some_iff.1 hi).1
    rw [List.getElem?_eq_getElem hil] at h1
    exact ⟨_, _, h1⟩
  match l, hlen with
  | [c0, c1, c2, c3], _ =>
    obtain ⟨m0, y0, h0⟩ := sub 0 f0 rfl
    obtain ⟨m1, y1, h1⟩ := sub 1 f1 rfl
    obtain ⟨m2, y2, h2⟩ := sub 2 f2 rfl
    obtain ⟨m3, y3, h3⟩ := sub 3 f3 rfl
    obtain ⟨z0, e0, _, w0⟩ := DataW.trod_int u0 h0
    obtain ⟨z2, e2, _, w2⟩ := DataW.trod_int u2 h2
    obtain ⟨At, nt, ct, tr, e4, hr, hm, hw⟩ := trod_slice_ints u3 u3e u3c h3
    obtain ⟨Ap, np, cp, ps, e5, hr5, hm5, hR⟩ := trod_slice_gen Pt.cs_length (by omega) pt.cells (R := PtIn w) (fun _ _ _ _ _ h => trod_part pt h) u1 h1
    simp at e0 e2 e4 e5
    subst e0 e2 e4 e5
    exact ⟨z0, Ap, np, cp, z2, At, nt, ct, ps, tr, rfl, bounds_i64 w0, ⟨hr5, fun p hp => (hR p hp).rd, fun p hp => (hR p hp).ok⟩, hm5, fun p hp => ⟨(hR p hp).n, (hR p hp).bd⟩, bounds_u32 w2, hr, hm, fun z hz => bounds_i64 (hw z hz)⟩
end
end Go.Th
