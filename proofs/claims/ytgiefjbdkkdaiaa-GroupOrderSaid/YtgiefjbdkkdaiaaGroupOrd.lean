/-
  Numbers of as few bytes as may be: their order.
-/
import Derived.Test.YtgiefjbdkkdaiaaGroupMore
import Derived.Test.YtgiefjbdkkdaiaaNumPlain
namespace Go.Th
/-! Order. -/
theorem gsize_lt {x y : Nat} (h : gsize x < gsize y) : x < y := by
  unfold gsize at h
  repeat' split at h
  all_goals omega
theorem val1 (a : UInt8) : val [a] = a.toNat := by simp [val, valFrom]
theorem val2 (a b : UInt8) : val [a, b] = a.toNat * 256 + b.toNat := by simp [val, valFrom]
theorem val3 (a b c : UInt8) : val [a, b, c] = (a.toNat * 256 + b.toNat) * 256 + c.toNat := by simp [val, valFrom]
theorem val4 (a b c d : UInt8) : val [a, b, c, d] = ((a.toNat * 256 + b.toNat) * 256 + c.toNat) * 256 + d.toNat := by simp [val, valFrom]
/-- Rows of digits, one by one. -/
theorem dig2 (a b c d : Nat) (_h1 : a < 128) (h2 : b < 128) (_h3 : c < 128) (h4 : d < 128) : (a + 128) * 256 + b < (c + 128) * 256 + d ↔ a * 128 + b < c * 128 + d := by
  rcases Nat.lt_trichotomy a c with h | h | h
  · constructor <;> intro _ <;> omega
  · subst h; constructor <;> intro _ <;> omega
  · constructor <;> intro _ <;> omega
theorem dig_more (p q b d : Nat) (P Q : Nat) (h : P < Q ↔ p < q) (h' : P = Q ↔ p = q) (h2 : b < 128) (h4 : d < 128) : P * 256 + b < Q * 256 + d ↔ p * 128 + b < q * 128 + d := by
  rcases Nat.lt_trichotomy p q with e | e | e
  · have := h.2 e; constructor <;> intro _ <;> omega
  · have := h'.2 e; subst e this; constructor <;> intro _ <;> omega
  · have e1 : ¬ P < Q := fun e2 => by have := h.1 e2; omega
    have e3 : ¬ P = Q := fun e2 => by have := h'.1 e2; omega
    constructor <;> intro _ <;> omega
theorem dig_hi (p q b d : Nat) (P Q : Nat) (h : P < Q ↔ p < q) (h' : P = Q ↔ p = q) (h2 : b < 128) (h4 : d < 128) : (P * 256 + (b + 128) < Q * 256 + (d + 128) ↔ p * 128 + b < q * 128 + d) ∧ (P * 256 + (b + 128) = Q * 256 + (d + 128) ↔ p * 128 + b = q * 128 + d) := by
  rcases Nat.lt_trichotomy p q with e | e | e
  · have := h.2 e; constructor <;> constructor <;> intro _ <;> omega
  · have := h'.2 e; subst e this; constructor <;> constructor <;> intro _ <;> omega
  · have e1 : ¬ P < Q := fun e2 => by have := h.1 e2; omega
    have e3 : ¬ P = Q := fun e2 => by have := h'.1 e2; omega
    constructor <;> constructor <;> intro _ <;> omega
theorem gless (x y : Nat) (hx : x < 268435456) (hy : y < 268435456) (h : gsize x = gsize y) : Op.bytesLess (gput x) (gput y) = decide (x < y) := by
  rw [less_val _ _ (by rw [gput_length, gput_length, h])]
  apply decide_eq_decide.2
  have m (a : Nat) : a % 128 < 128 := Nat.mod_lt _ (by omega)
  have ex : x = x / 128 * 128 + x % 128 := by omega
  have ey : y = y / 128 * 128 + y % 128 := by omega
  have ex1 : x / 128 = x / 128 / 128 * 128 + x / 128 % 128 := by omega
  have ey1 : y / 128 = y / 128 / 128 * 128 + y / 128 % 128 := by omega
  have ex2 : x / 128 / 128 = x / 128 / 128 / 128 * 128 + x / 128 / 128 % 128 := by omega
  have ey2 : y / 128 / 128 = y / 128 / 128 / 128 * 128 + y / 128 / 128 % 128 := by omega
  rcases sizes x with h1 | ⟨h1, h2⟩ | ⟨h1, h2⟩ | h1 <;> rcases sizes y with h3 | ⟨h3, h4⟩ | ⟨h3, h4⟩ | h3 <;> first
    | (exfalso; unfold gsize at h; repeat' split at h
       all_goals omega)
    | skip
  · rw [gput1 h1, gput1 h3, val1, val1, lo7_toNat, lo7_toNat, Nat.mod_eq_of_lt h1, Nat.mod_eq_of_lt h3]
  · rw [gput2 h1 h2, gput2 h3 h4, val2, val2, hi7_toNat, hi7_toNat, lo7_toNat, lo7_toNat, dig2 _ _ _ _ (m _) (m _) (m _) (m _), Nat.mod_eq_of_lt (show x / 128 < 128 by omega), Nat.mod_eq_of_lt (show y / 128 < 128 by omega), ← ex, ← ey]
  · rw [gput3 h1 h2, gput3 h3 h4, val3, val3, hi7_toNat, hi7_toNat, hi7_toNat, hi7_toNat, lo7_toNat, lo7_toNat, Nat.mod_eq_of_lt (show x / 128 / 128 < 128 by omega), Nat.mod_eq_of_lt (show y / 128 / 128 < 128 by omega)]
    have k1 := dig_hi (x / 128 / 128) (y / 128 / 128) (x / 128 % 128) (y / 128 % 128) (x / 128 / 128 + 128) (y / 128 / 128 + 128) (by omega) (by omega) (m _) (m _)
    rw [← ex1, ← ey1] at k1
    have k2 := dig_more (x / 128) (y / 128) (x % 128) (y % 128) _ _ k1.1 k1.2 (m _) (m _)
    rw [← ex, ← ey] at k2
    exact k2
  · rw [gput4 h1, gput4 h3, val4, val4, hi7_toNat, hi7_toNat, hi7_toNat, hi7_toNat, hi7_toNat, hi7_toNat, lo7_toNat, lo7_toNat, Nat.mod_eq_of_lt (show x / 128 / 128 / 128 < 128 by omega), Nat.mod_eq_of_lt (show y / 128 / 128 / 128 < 128 by omega)]
    have k0 := dig_hi (x / 128 / 128 / 128) (y / 128 / 128 / 128) (x / 128 / 128 % 128) (y / 128 / 128 % 128) (x / 128 / 128 / 128 + 128) (y / 128 / 128 / 128 + 128) (by omega) (by omega) (m _) (m _)
    rw [← ex2, ← ey2] at k0
    have k1 := dig_hi (x / 128 / 128) (y / 128 / 128) (x / 128 % 128) (y / 128 % 128) _ _ k0.1 k0.2 (m _) (m _)
    rw [← ex1, ← ey1] at k1
    have k2 := dig_more (x / 128) (y / 128) (x % 128) (y % 128) _ _ k1.1 k1.2 (m _) (m _)
    rw [← ex, ← ey] at k2
    exact k2
end Go.Th
