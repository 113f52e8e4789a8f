/-
  Bits of a frame are turned: what is taken then.
-/
import Derived.Test.YtgiefjbdkkdaiaaFrameLaw
namespace Go.Th
/-- k bits from p on, turned where x has a bit. -/
def burst (bs : List UInt8) (x p : Nat) : Nat → List UInt8
  | 0 => bs
  | k + 1 => if x / 2 ^ k % 2 = 1 then flip (burst bs x p k) (p + k) else burst bs x p k
theorem burst_length (bs : List UInt8) (x p : Nat) : ∀ k, (burst bs x p k).length = bs.length
  | 0 => rfl
  | k + 1 => by
    unfold burst
    split
    · rw [flip_length, burst_length bs x p k]
    · exact burst_length bs x p k
theorem burst_append (bs cs : List UInt8) (x p : Nat) : ∀ k, p + k ≤ 8 * bs.length → burst (bs ++ cs) x p k = burst bs x p k ++ cs
  | 0, _ => rfl
  | k + 1, h => by
    unfold burst
    rw [burst_append bs cs x p k (by omega)]
    split
    · exact flip_append _ _ _ (by rw [burst_length]; omega)
    · rfl
theorem mod_bit (x k : Nat) : x % 2 ^ (k + 1) = if x / 2 ^ k % 2 = 1 then x % 2 ^ k ^^^ 2 ^ k else x % 2 ^ k := by
  have h := Nat.mod_pow_succ (b := 2) (x := x) (k := k)
  rw [h]
  have hlt : x % 2 ^ k < 2 ^ k := Nat.mod_lt _ (Nat.two_pow_pos k)
  rcases Nat.mod_two_eq_zero_or_one (x / 2 ^ k) with h0 | h1
  · rw [h0, if_neg (by decide), Nat.mul_zero, Nat.add_zero]
  · rw [h1, if_pos rfl, Nat.mul_one]
    have := Nat.two_pow_add_eq_or_of_lt hlt 1
    rw [Nat.mul_one] at this
    rw [Nat.add_comm, this]
    apply Nat.eq_of_testBit_eq
    intro i
    rw [Nat.testBit_or, Nat.testBit_xor]
    by_cases hi : i = k
    · subst hi
      rw [Nat.testBit_two_pow_self, Nat.testBit_lt_two_pow hlt]
      rfl
    · rw [Nat.testBit_two_pow_of_ne (fun e => hi e.symm)]
      simp
theorem mul_xor (p a b : Nat) : 2 ^ p * (a ^^^ b) = 2 ^ p * a ^^^ 2 ^ p * b := by
  have := Nat.shiftLeft_xor_distrib (a := a) (b := b) (i := p)
  rw [Nat.shiftLeft_eq, Nat.shiftLeft_eq, Nat.shiftLeft_eq] at this
  rw [Nat.mul_comm, this, Nat.mul_comm a, Nat.mul_comm b]
theorem le_burst (bs : List UInt8) (x p : Nat) : ∀ k, p + k ≤ 8 * bs.length → le (burst bs x p k) = le bs ^^^ 2 ^ p * (x % 2 ^ k)
  | 0, _ => by simp [burst, Nat.mod_one]
  | k + 1, h => by
    have ih := le_burst bs x p k (by omega)
    unfold burst
    rw [mod_bit]
    split
    · rw [le_flip _ _ (by rw [burst_length]; omega), ih, mul_xor, Nat.xor_assoc, ← Nat.pow_add]
    · exact ih
/-- Up to 32 bits next to each other ahead of the sum, the lowest one turned. -/
theorem ftake_burst (m : Nat) (bs : List UInt8) (x p k : Nat) (hx : x % 2 = 1) (hk : 1 ≤ k) (hk2 : k ≤ 32) (hp : p + k ≤ 8 * (bs.length + 4)) : ∃ g, ftake m (burst (fput m bs) x p k) = ([], g) ∧ (g = 5 ∨ g = 6) := by
  have hl := fhead_length m bs
  have e1 : burst (fput m bs) x p k = burst (fhead m bs) x p k ++ be (csum (fhead m bs)) 4 := burst_append _ _ _ _ _ (by rw [hl]; omega)
  have hne : csum (burst (fhead m bs) x p k) ≠ csum (fhead m bs) := by
    refine csum_burst (burst_length _ _ _ _) (p := p) (e := x % 2 ^ k) ?_ ?_ (by rw [hl]; omega) (le_burst _ _ _ _ (by rw [hl]; omega))
    · intro h0
      have h2 : x % 2 ^ k % 2 = 1 := by rw [Nat.mod_mod_of_dvd _ (⟨2 ^ (k - 1), by rw [← Nat.pow_succ', Nat.succ_eq_add_one, Nat.sub_add_cancel hk]⟩ : 2 ∣ 2 ^ k)]; exact hx
      rw [h0] at h2
      cases h2
    · exact Nat.lt_of_lt_of_le (Nat.mod_lt _ (Nat.two_pow_pos k)) (Nat.pow_le_pow_right (by decide) hk2 : 2 ^ k ≤ 2 ^ 32)
  rw [e1, ftake_parts (h := burst (fhead m bs) x p k) (s := be (csum (fhead m bs)) 4) (by rw [burst_length, hl]; omega) (be_length _ _) rfl]
  split
  · rw [if_neg (fun e => hne ((be_inj _ _ 4 (by have := csum_lt (fhead m bs); omega) (by have := csum_lt (burst (fhead m bs) x p k); omega)).1 e).symm)]
    exact ⟨6, rfl, .inr rfl⟩
  · exact ⟨5, rfl, .inl rfl⟩
theorem flip_behind (bs cs : List UInt8) (q : Nat) (h : 8 * bs.length ≤ q) : flip (bs ++ cs) q = bs ++ flip cs (q - 8 * bs.length) := by
  unfold flip
  have e1 : (q - 8 * bs.length) / 8 = q / 8 - bs.length := by omega
  have e2 : (q - 8 * bs.length) % 8 = q % 8 := by omega
  rw [List.set_append_right _ _ (by omega), e1, e2]
  congr 3
  rw [List.getD_eq_getElem?_getD, List.getD_eq_getElem?_getD, List.getElem?_append_right (by omega)]
/-- One bit is turned. -/
theorem ftake_flip (m : Nat) (bs : List UInt8) (q : Nat) (hq : q < 8 * (bs.length + 8)) : ∃ g, ftake m (flip (fput m bs) q) = ([], g) ∧ (g = 5 ∨ g = 6) := by
  by_cases h : q < 8 * (bs.length + 4)
  · have := ftake_burst m bs 1 q 1 rfl (by omega) (by omega) (by omega)
    exact this
  · have hl := fhead_length m bs
    have e1 : flip (fput m bs) q = fhead m bs ++ flip (be (csum (fhead m bs)) 4) (q - 8 * (fhead m bs).length) := flip_behind _ _ _ (by rw [hl]; omega)
    have hne : flip (be (csum (fhead m bs)) 4) (q - 8 * (fhead m bs).length) ≠ be (csum (fhead m bs)) 4 := fun e => by
      have h2 := congrArg le e
      rw [le_flip _ _ (by rw [be_length, hl]; omega)] at h2
      have h3 := congrArg (le (be (csum (fhead m bs)) 4) ^^^ ·) h2
      simp [← Nat.xor_assoc] at h3
    rw [e1, ftake_parts (h := fhead m bs) (s := flip (be (csum (fhead m bs)) 4) (q - 8 * (fhead m bs).length)) (by rw [hl]; omega) (by rw [flip_length, be_length]) rfl, if_pos (fhead_take m bs), if_neg hne]
    exact ⟨6, rfl, .inr rfl⟩
end Go.Th
