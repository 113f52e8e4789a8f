/-
  What back marks.
-/
import Derived.Test.YtdmkiejaejlajaaNhCyc
namespace Go.Proofs.Ytdmkiejaejlajaa
open Go.Th
set_option linter.unusedVariables false
/-- A node that bears a mark. -/
def Seen (n : Nat) (zs : List Int) (u : Int) : Prop := 0 ≤ u ∧ u < (n : Int) ∧ ∃ z, zs[u.toNat]? = some z ∧ z ≠ 0
theorem seen_set {n : Nat} {zs : List Int} {i : Nat} {x u : Int} (hl : zs.length = n) (hi : i < n) (hx : x ≠ 0) : Seen n (zs.set i x) u ↔ Seen n zs u ∨ u = (i : Int) := by
  constructor
  · rintro ⟨h0, h1, z, hz, hne⟩
    by_cases e : u = (i : Int)
    · exact .inr e
    · refine .inl ⟨h0, h1, z, ?_, hne⟩
      rw [List.getElem?_set_ne (by omega)] at hz
      exact hz
  · rintro (⟨h0, h1, z, hz, hne⟩ | rfl)
    · by_cases e : i = u.toNat
      · exact ⟨h0, h1, x, by rw [← e, List.getElem?_set_self (by omega)], hx⟩
      · exact ⟨h0, h1, z, by rw [List.getElem?_set_ne e]; exact hz, hne⟩
    · exact ⟨by omega, by omega, x, by rw [Int.toNat_natCast, List.getElem?_set_self (by omega)], hx⟩
theorem seen_marks {ls : List (List Ru)} {a : Int} {n v : Nat} {zs : List Int} (hl : zs.length = n) (hv : v < n) : ∀ {k : Nat}, (∀ j, j ≤ k → 0 ≤ (sit ls a v j).1 ∧ (sit ls a v j).1 < n) → ∀ u, Seen n (marks ls a v zs k) u ↔ Seen n zs u ∨ ∃ j, j ≤ k ∧ u = (sit ls a v j).1
  | 0, h, u => by
    rw [marks, seen_set hl hv (by omega)]
    constructor
    · rintro (h1 | h1)
      · exact .inl h1
      · exact .inr ⟨0, Nat.le_refl _, h1⟩
    · rintro (h1 | ⟨j, hj, h1⟩)
      · exact .inl h1
      · obtain rfl : j = 0 := by omega
        exact .inr h1
  | k + 1, h, u => by
    have h1 := h (k + 1) (Nat.le_refl _)
    rw [marks, seen_set (by rw [marks_len]; exact hl) (by omega) (by omega), seen_marks hl hv (fun j hj => h j (by omega)) u, Int.toNat_of_nonneg h1.1]
    constructor
    · rintro ((h2 | ⟨j, hj, h2⟩) | h2)
      · exact .inl h2
      · exact .inr ⟨j, by omega, h2⟩
      · exact .inr ⟨k + 1, Nat.le_refl _, h2⟩
    · rintro (h2 | ⟨j, hj, h2⟩)
      · exact .inl (.inl h2)
      · by_cases e : j = k + 1
        · subst e; exact .inr h2
        · exact .inl (.inr ⟨j, by omega, h2⟩)
end Go.Proofs.Ytdmkiejaejlajaa
