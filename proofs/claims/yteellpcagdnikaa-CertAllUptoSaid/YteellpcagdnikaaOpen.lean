/-
  How an argument that came in is opened: slices of bytes, of whole numbers; arrays of whole numbers. Plain theorems over any program.
-/
import Derived.ProofKit
import Derived.OpenShut
import Derived.ShutString
import Derived.ChangeOld
import Derived.Test.YteellpcagdnikaaBase
namespace Go.Th
open Go.ChangeShapes Go.WideShapes Go.ChangeAt Go.RowKit
section
variable {H : Type} {enc : TypeId × Value → H} {P : Program} {w : World} {base : Nat} {spare : Nat → Bool} {held : Bool} {r : Reach} {b0 : Nat} {t e : TypeId} {v : Value} {d : DataW H} {p : List MemPlace}

/-- A slice of whole numbers. -/
theorem open_slice_ints {k : IntKind} (ht : P.underlying t = some (.slice e)) (he : P.underlying e = some (.int k)) (hc : P.cellsOf e = 1) (hv : Value.okWide P w r b0 t v) (h : DataW.Trod enc P w base spare held t v d p) :
    ∃ A n c zs, v = .slice A n c ∧ RdS (Value.int k) w w.heap.size A n c zs ∧ n ≤ 9223372036854775807 ∧ ∀ z ∈ zs, (Lit.int k z).wf = true := by
  obtain ⟨a, n, c, rfl⟩ := okWide_slice ht hv
  obtain ⟨fuel, hf⟩ := h
  rcases open_ints ht he hc hf with ⟨hcs, _⟩ | ⟨x, l, c', zs, hcs, _, hl, hm, hz, _, hcell, hwz⟩
  · simp only [Value.cells, List.cons.injEq, and_true, Value.slice.injEq] at hcs
    obtain ⟨rfl, rfl, rfl⟩ := hcs
    exact ⟨none, 0, 0, [], rfl, RdS.nil _ _, by omega, by simp⟩
  · simp only [Value.cells, List.cons.injEq, and_true, Value.slice.injEq] at hcs
    obtain ⟨rfl, rfl, rfl⟩ := hcs
    have hzl : n ≤ zs.length := by rw [hz]; split <;> omega
    have hadd : ∀ j u, (zs.take n)[j]? = some u → ∃ b o, some x = some ⟨b, o, none⟩ ∧ b < w.heap.size ∧ w.cell? ⟨b, o + j, none⟩ = some (.int k u) := by
      intro j u hu
      rw [List.getElem?_take] at hu
      split at hu
      · have hjl : j < zs.length := by omega
        have hj := hcell j hjl
        have h0 := hcell 0 (by omega)
        obtain ⟨b, off, spot⟩ := x
        have hspot : spot = none := by simpa [Addr.add] using World.cell?_spot h0
        subst hspot
        have hu' : zs.getD j 0 = u := by rw [List.getD_eq_getElem?_getD, hu]; rfl
        rw [Addr.add_lit, hu'] at hj
        exact ⟨b, off, rfl, World.block_lt_of_cell? w ⟨b, off + j, none⟩ hj, hj⟩
      · cases hu
    refine ⟨some x, n, c, zs.take n, rfl, ⟨⟨fun j u hu => ?_⟩, by rw [List.length_take]; omega, hl⟩, by simp only [maxLen] at hm; omega, fun z hz => hwz z (List.mem_of_mem_take hz)⟩
    rw [List.getElem?_map] at hu
    cases hj : (zs.take n)[j]? with
    | none => rw [hj] at hu; cases hu
    | some y =>
      rw [hj] at hu
      injection hu with hu
      subst hu
      exact hadd j y hj

/-- A slice of bytes. -/
theorem open_slice_bytes (ht : P.underlying t = some (.slice e)) (he : P.underlying e = some (.int .u8)) (hc : P.cellsOf e = 1) (hv : Value.okWide P w r b0 t v) (h : DataW.Trod enc P w base spare held t v d p) :
    ∃ A n c bs, v = .slice A n c ∧ RdS bv w w.heap.size A n c bs ∧ n ≤ 9223372036854775807 := by
  obtain ⟨A, n, c, zs, hv', hr, hm, hwf⟩ := open_slice_ints ht he hc hv h
  have e : zs.map (Value.int .u8) = (zs.map fun z => UInt8.ofNat z.toNat).map bv := by
    rw [List.map_map]
    refine List.map_congr_left fun z hz => ?_
    have hb := bounds_u8 (hwf z hz)
    simp only [Function.comp, bv, UInt8.toNat_ofNat', Value.int.injEq, true_and]
    omega
  exact ⟨A, n, c, zs.map fun z => UInt8.ofNat z.toNat, hv', ⟨by rw [← e]; exact hr.rd, by rw [List.length_map]; exact hr.len, hr.cap⟩, hm⟩

/-- An array of whole numbers. -/
theorem open_array_ints {k : IntKind} {n : Nat} (ht : P.underlying t = some (.array n e)) (he : P.underlying e = some (.int k)) (hc : P.cellsOf e = 1) (hct : P.cellsOf t = n) (hv : Value.okWide P w r b0 t v) (h : DataW.Trod enc P w base spare held t v d p) :
    ∃ zs : List Int, v = .agg (zs.map (Value.int k)).toArray ∧ zs.length = n ∧ ∀ z ∈ zs, (Lit.int k z).wf = true := by
  simp only [Value.okWide, ht] at hv
  obtain ⟨cs, rfl, h1, _⟩ := hv
  obtain ⟨fuel, hf⟩ := h
  obtain ⟨xs, m, _, _, hlen, hxl, hg⟩ := DataW.trod_array ht hf
  obtain ⟨l⟩ := cs
  simp only [Value.cells] at hlen hg
  have hcells : ∀ i, i < n → ∃ z, (l.drop i).take 1 = [.int k z] ∧ (Lit.int k z).wf = true := by
    intro i hi
    have := hg i hi
    rw [hc, Nat.mul_one] at this
    have hx : ∃ y, xs[i]? = some y := ⟨xs[i]'(by omega), List.getElem?_eq_getElem (by omega)⟩
    obtain ⟨y, hy⟩ := hx
    rw [hy] at this
    obtain ⟨z, hz, _, hw⟩ := DataW.trod_int he this
    exact ⟨z, hz, hw⟩
  have key : ∀ (l : List Value) (n : Nat), (∀ i, i < n → ∃ z, (l.drop i).take 1 = [.int k z] ∧ (Lit.int k z).wf = true) → l.length = n → ∃ zs : List Int, l = zs.map (Value.int k) ∧ zs.length = n ∧ ∀ z ∈ zs, (Lit.int k z).wf = true := by
    intro l
    induction l with
    | nil => intro n _ hn; exact ⟨[], rfl, by simpa using hn, by simp⟩
    | cons u l ih =>
      intro n hn hl
      rcases n with _ | n
      · simp at hl
      obtain ⟨z, hz, hw⟩ := hn 0 (by omega)
      simp at hz
      obtain ⟨zs, h1, h2, h3⟩ := ih n (fun i hi => by simpa using hn (i + 1) (by omega)) (by simpa using hl)
      exact ⟨z :: zs, by simp [hz, h1], by simp [h2], by simpa using ⟨hw, h3⟩⟩
  obtain ⟨zs, h1, h2, h3⟩ := key l n hcells (by simpa [hct] using hlen)
  exact ⟨zs, by rw [h1], h2, h3⟩
end
end Go.Th
