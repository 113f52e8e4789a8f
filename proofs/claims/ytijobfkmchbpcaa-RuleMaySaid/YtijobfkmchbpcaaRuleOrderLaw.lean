/-
  What RuleOrder says, on rules as numbers.
-/
import Derived.Test.YtijobfkmchbpcaaTableLessLaw
namespace Go.Th
theorem icmp_swap (a b : Int) : icmp b a = - icmp a b := by
  unfold icmp
  split <;> split <;> (try split) <;> omega
theorem icmp_bd (a b : Int) : -1 ≤ icmp a b ∧ icmp a b ≤ 1 := by
  unfold icmp
  split
  · omega
  · split <;> omega
theorem pcmp_neg (a m b n : Int) : pcmp b n a m = - pcmp a m b n := by
  unfold pcmp
  by_cases h : a = b
  · rw [if_pos h, if_pos h.symm, icmp_swap]
  · rw [if_neg h, if_neg (fun e => h e.symm), icmp_swap]
theorem pcmp_bd (a m b n : Int) : -1 ≤ pcmp a m b n ∧ pcmp a m b n ≤ 1 := by
  unfold pcmp
  split <;> exact icmp_bd _ _
theorem pcmp_self (a m : Int) : pcmp a m a m = 0 := by
  unfold pcmp icmp
  rw [if_pos rfl, if_neg (by omega), if_neg (by omega)]
theorem Ru.pmay_of {r : Ru} {nodes : Int} (h : r.may nodes = 0) : pmay r.a r.n = 0 := by
  unfold Ru.may at h
  split at h
  · rename_i h1; exact absurd h h1
  · rename_i h1; omega
theorem Ru.may_more {r : Ru} {nodes k : Int} (h : r.may nodes = 0) (hk : nodes ≤ k) : r.may k = 0 := by
  unfold Ru.may at *
  split at h
  · rename_i h1; exact absurd h h1
  · rename_i h1
    rw [if_neg h1]
    split at h
    · rename_i h2
      rw [if_pos h2]
      split at h
      · cases h
      · rw [if_neg (by omega)]
    · rename_i h2
      rw [if_neg h2]
      exact h
theorem Ru.may_drop {r : Ru} {nodes : Int} (h : r.may nodes = 0) : (⟨r.a, r.n, 3, 0⟩ : Ru).may 0 = 0 := by
  unfold Ru.may
  simp only
  rw [if_neg (fun hn => hn (Ru.pmay_of h)), if_neg (by decide), if_pos (by simp), if_neg (by simp)]
theorem Ru.may_none {r : Ru} {nodes : Int} (h : r.may nodes = 0) : ((r.act == 1) = true ∧ r.may 0 = 10) ∨ ((r.act == 1) = false ∧ r.may 0 = 0) := by
  have hp := Ru.pmay_of h
  by_cases h1 : r.act = 1
  · left
    refine ⟨by simp [h1], ?_⟩
    unfold Ru.may
    rw [if_neg (fun hn => hn hp), if_pos h1, if_pos (by omega)]
  · right
    refine ⟨by simp [h1], ?_⟩
    unfold Ru.may at *
    rw [if_neg (fun hn => hn hp), if_neg h1] at h ⊢
    exact h
end Go.Th
