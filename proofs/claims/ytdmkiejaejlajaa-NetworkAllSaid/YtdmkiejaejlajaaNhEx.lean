/-
  theseuslaw09's example: the plain law.
-/
import Derived.Test.YtdmkiejaejlajaaNhLoop
namespace Go.Proofs.Ytdmkiejaejlajaa
open Go.Th
set_option linter.unusedVariables false
def exN : List (List Ru) := [[⟨0, 0, 1, 2⟩], [⟨0, 0, 1, 1⟩], [⟨0, 0, 1, 1⟩]]
theorem ex0 : hof exN 7 0 = 2 := by decide +kernel
theorem ex1 : hof exN 7 1 = 1 := by decide +kernel
theorem ex2 : hof exN 7 2 = 1 := by decide +kernel
theorem exg1 : gof exN 7 1 = true := by decide +kernel
theorem ex_itr1 : ∀ k, itr (hof exN 7) k 1 = 1
  | 0 => rfl
  | k + 1 => by rw [itr, ex_itr1 k, ex1]
theorem ex_cyc1 : Cyc (hof exN 7) (gof exN 7) 1 1 := ⟨Nat.le_refl _, fun j hj => by rw [ex_itr1]; exact exg1, ex_itr1 1⟩
theorem ex_itr0 (k : Nat) : itr (hof exN 7) (k + 1) 0 ≠ 0 := by
  rcases k with _ | k
  · show hof exN 7 0 ≠ 0
    rw [ex0]; decide
  · have : itr (hof exN 7) (k + 1 + 1) 0 = 1 := by
      rw [show k + 1 + 1 = k + 2 by omega, itr_add]
      show itr (hof exN 7) k (hof exN 7 (hof exN 7 0)) = 1
      rw [ex0, ex2, ex_itr1]
    rw [this]; decide
/-- The example goes round at node 1 alone. -/
theorem ex_only {best : Int} {M : Nat} (h0 : 0 ≤ best) (c : Cyc (hof exN 7) (gof exN 7) best M) (hmin : ∀ j, 0 < j → j < M → itr (hof exN 7) j best ≠ best) (hle : best ≤ 1) : sits exN 7 best M = [1] := by
  have hb : best = 1 := by
    by_cases e : best = 0
    · subst e
      have h1 := c.back
      have h2 := c.pos
      obtain ⟨m, rfl⟩ : ∃ m, M = m + 1 := ⟨M - 1, by omega⟩
      exact absurd h1 (ex_itr0 m)
    · omega
  subst hb
  have hM : M = 1 := by
    have h2 := c.pos
    by_cases e : 1 < M
    · exact absurd (ex_itr1 1) (hmin 1 (by omega) e)
    · omega
  subst hM
  rfl
end Go.Proofs.Ytdmkiejaejlajaa
