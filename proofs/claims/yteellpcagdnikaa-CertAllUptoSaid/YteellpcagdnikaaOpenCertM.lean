/-
  How a certificate that came in is opened, and that its rows are no longer than what is read of it is great. Plain theorems over any program.
-/
import Derived.Test.YteellpcagdnikaaOpenCert
namespace Go.Th
open Go.ChangeShapes Go.WideShapes Go.ChangeAt Go.RowKit Go.Deep Go.Joins
set_option linter.unusedVariables false
/-- A measure of what is read: no less than how many elements, and than each of them. -/
structure Meas {H : Type} (M : DataW H → Nat) : Prop where
  len : ∀ elems spare, elems.length ≤ M (.slice elems spare)
  elem : ∀ elems spare e, e ∈ elems → M e ≤ M (.slice elems spare)
  part : ∀ parts e, e ∈ parts → M e ≤ M (.agg parts)
section
variable {H : Type} {enc : TypeId × Value → H} {P : Program} {w : World} {base : Nat} {spare : Nat → Bool} {held : Bool} {r : Go.Reach} {b0 : Nat} {t e : TypeId} {v : Value} {d : DataW H} {p : List MemPlace} {M : DataW H → Nat} (hM : Meas M)
include hM
theorem slice_intsM {k : IntKind} (ht : P.underlying t = some (.slice e)) (he : P.underlying e = some (.int k)) (hc : P.cellsOf e = 1) {fuel : Nat} {A : Option Addr} {n c : Nat} {x : DataW H × List MemPlace} (hf : DataW.trod enc P w base spare held fuel t [.slice A n c] = some x) : n ≤ M x.1 := by
  rcases open_ints ht he hc hf with ⟨hcs, _⟩ | ⟨a, l, c', zs, hcs, _, hl, hm, hz, hx, _⟩
  · simp only [List.cons.injEq, and_true, Value.slice.injEq] at hcs
    omega
  · simp only [List.cons.injEq, and_true, Value.slice.injEq] at hcs
    obtain ⟨_, rfl, _⟩ := hcs
    rw [hx]
    refine Nat.le_trans ?_ (hM.len _ _)
    have hzl : n ≤ zs.length := by rw [hz]; split <;> omega
    simp [lits]
    omega
theorem trod_partM (rt : PartT P t) {fuel : Nat} {q : Pt} {x : DataW H × List MemPlace} (h : DataW.trod enc P w base spare held fuel t q.cs = some x) : q.n ≤ M x.1 := by
  obtain ⟨f0, f1, f2, hs, hone, u0, u1, e2, u2, u2e, u2c⟩ := rt.fields
  obtain ⟨xs, n, _, hx, hlen, hxl, hf⟩ := DataW.trod_struct hs h
  obtain ⟨o, c⟩ := hone_of hone 2 f2 rfl
  have h1 := hf 2 f2 rfl
  rw [o, c] at h1
  have hil : 2 < xs.length := by rw [hxl]; exact (by decide : 2 < 3)
  rw [List.getElem?_eq_getElem hil] at h1
  have h2 := slice_intsM hM u2 u2e u2c h1
  rw [hx]
  exact Nat.le_trans h2 (hM.part _ _ (List.mem_map.2 ⟨_, List.getElem_mem hil, rfl⟩))
/-- The parts' rows of ranks. -/
theorem open_certM (rt : CertT P t) {x : Int} {Ap : Option Addr} {np cp : Nat} {dd : Int} {At : Option Addr} {nt ct : Nat} {ps : List Pt} (hv : v = .agg #[.int .i64 x, .slice Ap np cp, .int .u32 dd, .slice At nt ct]) (hp : RdM Pt.cs w w.heap.size Ap np cp ps) (h : DataW.Trod enc P w base spare held t v d p) : ∀ q ∈ ps, q.n ≤ M d := by
  obtain ⟨f0, f1, f2, f3, hs, hone, u0, ⟨e1, u1, pt⟩, u2, e3, u3, u3e, u3c⟩ := rt.fields
  subst hv
  obtain ⟨fuel, hf⟩ := h
  obtain ⟨xs, n, _, hx, hlen, hxl, hf⟩ := DataW.trod_struct hs hf
  obtain ⟨o, c⟩ := hone_of hone 1 f1 rfl
  have h1 := hf 1 f1 rfl
  rw [o, c] at h1
  have hil : 1 < xs.length := by rw [hxl]; exact (by decide : 1 < 4)
  rw [List.getElem?_eq_getElem hil] at h1
  simp only [Value.cells] at h1
  have hd : d = (.agg (xs.map (·.1))) := by injection hx
  have hle : M (xs[1]).1 ≤ M d := by rw [hd]; exact hM.part _ _ (List.mem_map.2 ⟨_, List.getElem_mem hil, rfl⟩)
  intro q hq
  obtain ⟨i, hi⟩ := List.getElem?_of_mem hq
  have hin : i < np := by rw [← hp.len]; exact (List.getElem?_eq_some_iff.1 hi).1
  rcases open_slice u1 h1 with ⟨hcs, _⟩ | ⟨a, l, c', m, n', D, Pl, hcs, _, hl, hm, hmm, hxx, hcell⟩
  · simp only [List.drop_succ_cons, List.drop_zero, List.take_succ_cons, List.take_zero, List.cons.injEq, and_true, Value.slice.injEq] at hcs
    omega
  · simp only [List.drop_succ_cons, List.drop_zero, List.take_succ_cons, List.take_zero, List.cons.injEq, and_true, Value.slice.injEq] at hcs
    obtain ⟨rfl, rfl, rfl⟩ := hcs
    obtain ⟨cs', hc, htr⟩ := hcell i (by rw [hmm]; split <;> omega)
    rw [pt.cells] at hc
    obtain ⟨_, hcl, hat⟩ := World.cells?_some hc
    obtain ⟨b, off, hA, _, hq2⟩ := hp.cells Pt.cs_length hi (by omega)
    injection hA with hA
    have hcs : cs' = q.cs := by
      obtain ⟨p', rfl, _⟩ := trod_part pt htr
      refine List.ext_getElem? fun j => ?_
      by_cases hj : j < 3
      · have g1 := hat j hj
        have g2 := hq2 j _ (List.getElem?_eq_getElem (by rw [Pt.cs_length]; exact hj))
        rw [hA, Addr.add_lit, Addr.add_lit] at g1
        rw [g2] at g1
        rw [List.getElem?_eq_getElem (show j < q.cs.length by rw [Pt.cs_length]; exact hj)]
        exact g1.symm
      · rw [List.getElem?_eq_none (by rw [Pt.cs_length]; omega), List.getElem?_eq_none (by rw [Pt.cs_length]; omega)]
    rw [hcs] at htr
    have h2 := trod_partM hM pt htr
    refine Nat.le_trans h2 (Nat.le_trans ?_ hle)
    rw [hxx]
    exact hM.elem _ _ _ (List.mem_map.2 ⟨i, List.mem_range.2 hin, rfl⟩)
end
end Go.Th
