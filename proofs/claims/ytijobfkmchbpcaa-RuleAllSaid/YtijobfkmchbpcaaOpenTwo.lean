/-
  An argument that is an array of two rules is opened.
-/
import Derived.Test.YtijobfkmchbpcaaOpenRule
namespace Go.Th
open Go.ChangeShapes Go.WideShapes Go.ChangeAt Go.RowKit Go.Deep Go.Joins
variable {H : Type} {enc : TypeId × Value → H} {P : Program} {w : World} {base : Nat} {spare : Nat → Bool} {held : Bool} {r : Go.Reach} {b0 : Nat} {t e : TypeId} {v : Value} {d : DataW H} {p : List MemPlace}
theorem open_two_rules (rt : RuleT P e) (ht : P.underlying t = some (.array 2 e)) (hct : P.cellsOf t = 8) (hv : Value.okWide P w r b0 t v) (h : DataW.Trod enc P w base spare held t v d p) :
    ∃ x y : Ru, v = .agg (x.cs ++ y.cs).toArray ∧ x.Ok ∧ y.Ok := by
  simp only [Value.okWide, ht] at hv
  obtain ⟨cs, rfl, h1, _⟩ := hv
  obtain ⟨fuel, hf⟩ := h
  obtain ⟨xs, m, _, _, hlen, hxl, hg⟩ := DataW.trod_array ht hf
  obtain ⟨l⟩ := cs
  simp only [Value.cells] at hlen hg
  have hcells : ∀ i, i < 2 → ∃ x : Ru, (l.drop (i * 4)).take 4 = x.cs ∧ x.Ok := by
    intro i hi
    have := hg i hi
    rw [rt.cells] at this
    obtain ⟨y, hy⟩ : ∃ y, xs[i]? = some y := ⟨xs[i]'(by omega), List.getElem?_eq_getElem (by omega)⟩
    rw [hy] at this
    exact trod_rule rt this
  obtain ⟨x, hx, ox⟩ := hcells 0 (by omega)
  obtain ⟨y, hy, oy⟩ := hcells 1 (by omega)
  refine ⟨x, y, ?_, ox, oy⟩
  have hl : l.length = 8 := by simpa [hct] using hlen
  rw [← hx, ← hy]
  congr 1
  simp only [Nat.zero_mul, List.drop_zero, Nat.one_mul]
  rw [List.take_of_length_le (i := 4) (l := l.drop 4) (by rw [List.length_drop]; omega), List.take_append_drop]
end Go.Th
