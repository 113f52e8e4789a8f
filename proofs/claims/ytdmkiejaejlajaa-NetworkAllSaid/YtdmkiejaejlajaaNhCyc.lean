/-
  Going round: the plain law.
-/
import Derived.Test.YtdmkiejaejlajaaNhMin
namespace Go.Th
set_option linter.unusedVariables false
def itr (h : Int → Int) : Nat → Int → Int
  | 0, u => u
  | k + 1, u => h (itr h k u)
theorem itr_add (h : Int → Int) : ∀ (i j : Nat) (u : Int), itr h (i + j) u = itr h i (itr h j u)
  | 0, j, u => by rw [Nat.zero_add]; rfl
  | i + 1, j, u => by rw [show i + 1 + j = (i + j) + 1 by omega, itr, itr_add h i j u, itr]
/-- From u back to u in L steps, all of which go. -/
structure Cyc (h : Int → Int) (g : Int → Bool) (u : Int) (L : Nat) : Prop where
  pos : 1 ≤ L
  goes : ∀ j, j < L → g (itr h j u) = true
  back : itr h L u = u
section
variable {h : Int → Int} {g : Int → Bool} {u : Int} {L : Nat}
theorem Cyc.per (c : Cyc h g u L) : ∀ (m j : Nat), itr h (j + m * L) u = itr h j u
  | 0, j => by rw [Nat.zero_mul, Nat.add_zero]
  | m + 1, j => by rw [show j + (m + 1) * L = (j + m * L) + L by rw [Nat.succ_mul]; omega, itr_add, c.back, c.per m j]
theorem Cyc.mod (c : Cyc h g u L) (j : Nat) : itr h j u = itr h (j % L) u := by
  have e : j = j % L + (j / L) * L := by rw [Nat.mul_comm]; exact (Nat.mod_add_div j L).symm
  conv => lhs; rw [e]
  exact c.per _ _
theorem Cyc.all (c : Cyc h g u L) (j : Nat) : g (itr h j u) = true := by
  rw [c.mod j]
  exact c.goes _ (Nat.mod_lt _ c.pos)
theorem Cyc.shift (c : Cyc h g u L) (t : Nat) : Cyc h g (itr h t u) L :=
  ⟨c.pos, fun j _ => by rw [← itr_add]; exact c.all _, by rw [← itr_add, Nat.add_comm, itr_add, c.back]⟩
/-- Back to u from t steps on. -/
theorem Cyc.home (c : Cyc h g u L) (t : Nat) : ∃ s, itr h s (itr h t u) = u := by
  refine ⟨t * L - t, ?_⟩
  have hp := c.pos
  have : t ≤ t * L := Nat.le_mul_of_pos_right t hp
  rw [← itr_add, show t * L - t + t = 0 + t * L by omega, c.per]
  rfl
/-- The least number of steps. -/
theorem Cyc.least : ∀ {L : Nat}, Cyc h g u L → ∃ M, Cyc h g u M ∧ M ≤ L ∧ ∀ j, 0 < j → j < M → itr h j u ≠ u := by
  intro L
  induction L using Nat.strongRecOn with
  | _ L ih =>
    intro c
    by_cases e : ∃ j, 0 < j ∧ j < L ∧ itr h j u = u
    · obtain ⟨j, h1, h2, h3⟩ := e
      obtain ⟨M, h4, h5, h6⟩ := ih j h2 ⟨h1, fun i hi => c.goes i (by omega), h3⟩
      exact ⟨M, h4, by omega, h6⟩
    · exact ⟨L, c, Nat.le_refl _, fun j h1 h2 h3 => e ⟨j, h1, h2, h3⟩⟩
/-- A set that no step leaves: whoever is in it stays. -/
theorem stays {S : Int → Prop} (hS : ∀ x, S x → g x = true → S (h x)) (hg : ∀ j, g (itr h j u) = true) {t : Nat} (ht : S (itr h t u)) : ∀ s, S (itr h s (itr h t u))
  | 0 => ht
  | s + 1 => hS _ (stays hS hg ht s) (by rw [← itr_add]; exact hg _)
theorem Cyc.inn {S : Int → Prop} (c : Cyc h g u L) (hS : ∀ x, S x → g x = true → S (h x)) {t : Nat} (ht : S (itr h t u)) : S u := by
  obtain ⟨s, hs⟩ := c.home t
  have := stays hS c.all ht s
  rw [hs] at this
  exact this
end
end Go.Th
namespace Go.Proofs.Ytdmkiejaejlajaa
open Go.Th
def hof (ls : List (List Ru)) (a : Int) (u : Int) : Int := (nstep ls a u).1
def gof (ls : List (List Ru)) (a : Int) (u : Int) : Bool := (nstep ls a u).2
theorem sit_itr (ls : List (List Ru)) (a v : Int) : ∀ k, (sit ls a v k).1 = itr (hof ls a) k v
  | 0 => rfl
  | k + 1 => by rw [sit, itr, ← sit_itr ls a v k]; rfl
theorem sit_goes (ls : List (List Ru)) (a v : Int) (k : Nat) : (sit ls a v (k + 1)).2 = gof ls a (itr (hof ls a) k v) := by rw [sit, ← sit_itr]; rfl
theorem gof_in {ls : List (List Ru)} {a u : Int} (h : gof ls a u = true) : 0 ≤ u ∧ u < (ls.length : Int) := by
  unfold gof nstep at h
  by_cases e : 0 ≤ u ∧ u < (ls.length : Int)
  · exact e
  · rw [if_neg e] at h; cases h
end Go.Proofs.Ytdmkiejaejlajaa
