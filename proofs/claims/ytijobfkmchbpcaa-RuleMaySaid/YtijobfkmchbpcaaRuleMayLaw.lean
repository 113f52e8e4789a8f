/-
  What RuleMay says, on rules as numbers: each thing that is spoilt, and the error that is told.
-/
import Derived.Test.YtijobfkmchbpcaaRuleOrderLaw
namespace Go.Th
theorem Ru.may_pmay (r : Ru) (nodes : Int) : pmay r.a r.n = 0 ∨ r.may nodes = pmay r.a r.n := by
  unfold Ru.may
  by_cases h : pmay r.a r.n = 0
  · exact .inl h
  · exact .inr (if_pos h)
/-- The node is spoilt. -/
theorem Ru.may_next1 {r : Ru} {nodes : Int} (h : r.may nodes = 0) (ha : r.act ≠ 1) : (⟨r.a, r.n, r.act, 1⟩ : Ru).may nodes = 10 := by
  have hp := Ru.pmay_of h
  unfold Ru.may at *
  simp only
  rw [if_neg (fun hn => hn hp), if_neg ha] at h ⊢
  split at h
  · rename_i h2
    rw [if_pos h2, if_pos (by decide)]
  · cases h
theorem Ru.may_nextN {r : Ru} {nodes : Int} (h : r.may nodes = 0) (ha : r.act = 1) : (⟨r.a, r.n, r.act, nodes + r.next⟩ : Ru).may nodes = 10 := by
  have hp := Ru.pmay_of h
  unfold Ru.may at *
  simp only
  rw [if_neg (fun hn => hn hp), if_pos ha] at h ⊢
  split at h
  · cases h
  · rw [if_pos (by omega)]
/-- The action is spoilt. -/
theorem Ru.may_act4 (a n act next nodes : Int) (hp : pmay a n = 0) (ha : 1 ≤ act) : (⟨a, n, 4 + act, next⟩ : Ru).may nodes = 9 := by
  unfold Ru.may
  simp only
  rw [if_neg (fun hn => hn hp), if_neg (by omega), if_neg (by omega)]
/-- The address is spoilt. -/
theorem pmay_one {a : Nat} {n : Int} (h0 : 0 ≤ n) (h1 : n < 32) : pmay ((a ||| 1 : Nat) : Int) n = 8 := by
  unfold pmay
  rw [if_neg (by omega), if_neg]
  intro h
  rw [Int.toNat_natCast] at h
  have hs : 1 ≤ sh n := by rw [sh_in h0 (by omega)]; omega
  have hd : (2 : Nat) ∣ 2 ^ sh n := ⟨2 ^ (sh n - 1), by rw [← Nat.pow_succ', Nat.succ_eq_add_one, Nat.sub_add_cancel hs]⟩
  have h2 : (a ||| 1) % 2 = 0 := by
    rw [← Nat.mod_mod_of_dvd _ hd, h]
  have h3 : (a ||| 1).testBit 0 = true := by rw [Nat.testBit_or]; simp
  rw [Nat.testBit_zero, h2] at h3
  cases h3
/-- The length is spoilt. -/
theorem pmay_33 (a n : Int) (h : 0 ≤ n) : pmay a (33 + n) = 1 := by
  unfold pmay
  rw [if_pos (by omega)]
theorem Ru.may_of_pmay {r : Ru} {nodes e : Int} (h : pmay r.a r.n = e) (he : e ≠ 0) : r.may nodes = e := by
  unfold Ru.may
  rw [h, if_pos he]
end Go.Th
