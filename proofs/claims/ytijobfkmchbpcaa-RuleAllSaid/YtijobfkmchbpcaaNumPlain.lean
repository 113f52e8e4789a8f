/-
  Plain laws on numbers as bytes, the highest byte first. No Go in sight.
-/
import Derived.WalkKit
namespace Go.Th
/-- n as s bytes, the highest one first. -/
def be (n : Nat) : Nat → List UInt8
  | 0 => []
  | s + 1 => be (n / 256) s ++ [UInt8.ofNat n]
theorem be_length (s : Nat) : ∀ n, (be n s).length = s := by
  induction s with
  | zero => intro n; rfl
  | succ s ih => intro n; simp [be, ih]
/-- The number of some bytes, behind a number. -/
def valFrom (a : Nat) (bs : List UInt8) : Nat := bs.foldl (fun a b => a * 256 + b.toNat) a
def val (bs : List UInt8) : Nat := valFrom 0 bs
theorem valFrom_append (a : Nat) (xs ys : List UInt8) : valFrom a (xs ++ ys) = valFrom (valFrom a xs) ys := by simp [valFrom]
theorem val_snoc (xs : List UInt8) (b : UInt8) : val (xs ++ [b]) = val xs * 256 + b.toNat := by simp [val, valFrom]
theorem valFrom_eq (bs : List UInt8) : ∀ a, valFrom a bs = a * 256 ^ bs.length + val bs := by
  induction bs with
  | nil => intro a; simp [valFrom, val]
  | cons b bs ih =>
    intro a
    have h1 : valFrom a (b :: bs) = valFrom (a * 256 + b.toNat) bs := rfl
    have h2 : val (b :: bs) = valFrom (0 * 256 + b.toNat) bs := rfl
    rw [h1, h2, ih, ih (0 * 256 + b.toNat), List.length_cons, Nat.pow_succ, Nat.add_mul, Nat.zero_mul, Nat.zero_add, Nat.mul_assoc, Nat.mul_comm 256, Nat.add_assoc]
theorem val_append (xs ys : List UInt8) : val (xs ++ ys) = val xs * 256 ^ ys.length + val ys := by
  show valFrom 0 (xs ++ ys) = _
  rw [valFrom_append, valFrom_eq]
  rfl
theorem val_lt (bs : List UInt8) : val bs < 256 ^ bs.length := by
  suffices h : ∀ bs : List UInt8, ∀ xs : List UInt8, bs = xs.reverse → val bs < 256 ^ bs.length from h bs bs.reverse (by simp)
  intro bs xs h
  subst h
  induction xs with
  | nil => simp [val, valFrom]
  | cons b xs ih =>
    rw [List.reverse_cons, val_snoc, List.length_append, List.length_singleton, Nat.pow_succ]
    have := b.toNat_lt
    omega
theorem val_be (s : Nat) : ∀ n, n < 256 ^ s → val (be n s) = n := by
  induction s with
  | zero => intro n h; simp at h; subst h; rfl
  | succ s ih =>
    intro n h
    rw [Nat.pow_succ] at h
    rw [be, val_snoc, ih (n / 256) (by omega)]
    simp
    omega
theorem be_val (bs : List UInt8) : be (val bs) bs.length = bs := by
  suffices h : ∀ xs : List UInt8, be (val xs.reverse) xs.reverse.length = xs.reverse by
    have := h bs.reverse
    simpa using this
  intro xs
  induction xs with
  | nil => rfl
  | cons b xs ih =>
    rw [List.reverse_cons, val_snoc, List.length_append, List.length_singleton, be]
    have hb := b.toNat_lt
    rw [show (val xs.reverse * 256 + b.toNat) / 256 = val xs.reverse by omega, ih]
    congr 2
    apply UInt8.toNat_inj.1
    simp
/-- Byte j of them. -/
theorem be_get (s : Nat) : ∀ n i, i < s → (be n s)[s - 1 - i]? = some (UInt8.ofNat (n / 256 ^ i)) := by
  induction s with
  | zero => intro n i h; omega
  | succ s ih =>
    intro n i h
    rw [be]
    rcases Nat.eq_zero_or_pos i with h0 | h0
    · subst h0
      rw [List.getElem?_append_right (by rw [be_length]; omega), be_length]
      simp
    · rw [List.getElem?_append_left (by rw [be_length]; omega)]
      have := ih (n / 256) (i - 1) (by omega)
      rw [show s + 1 - 1 - i = s - 1 - (i - 1) by omega, this, Nat.div_div_eq_div_mul, ← Nat.pow_succ', show (i - 1).succ = i by omega]
theorem val_take_succ (bs : List UInt8) (k : Nat) (x : UInt8) (h : bs[k]? = some x) : val (bs.take (k + 1)) = val (bs.take k) * 256 + x.toNat := by
  rw [List.take_add_one, h]
  exact val_snoc _ _
/-- The round of Put's loop. -/
theorem be_fill (n s i : Nat) (h : i < s) : (List.replicate (s - i) (0 : UInt8) ++ (be n s).drop (s - i)).set (s - 1 - i) (UInt8.ofNat (n / 256 ^ i)) = List.replicate (s - (i + 1)) 0 ++ (be n s).drop (s - (i + 1)) := by
  apply List.ext_getElem?
  intro j
  rw [List.getElem?_set]
  have hl := be_length s n
  by_cases hj : s - 1 - i = j
  · subst hj
    rw [if_pos rfl, if_pos (by simp; omega), List.getElem?_append_right (by simp; omega), List.getElem?_drop, List.length_replicate]
    rw [show s - (i + 1) + (s - 1 - i - (s - (i + 1))) = s - 1 - i by omega, be_get s n i h]
  · rw [if_neg hj]
    rcases Nat.lt_or_ge j (s - (i + 1)) with h1 | h1
    · rw [List.getElem?_append_left (by simp; omega), List.getElem?_append_left (by simp; omega), List.getElem?_replicate, List.getElem?_replicate, if_pos (by omega), if_pos h1]
    · rw [List.getElem?_append_right (by simp; omega), List.getElem?_append_right (by simp; omega), List.getElem?_drop, List.getElem?_drop, List.length_replicate, List.length_replicate]
      congr 1
      omega
theorem val_cons (b : UInt8) (bs : List UInt8) : val (b :: bs) = b.toNat * 256 ^ bs.length + val bs := by
  have := val_append [b] bs
  simpa [val, valFrom] using this
/-- Of rows of one length the less number has the less bytes. -/
theorem less_val : ∀ xs ys : List UInt8, xs.length = ys.length → Op.bytesLess xs ys = decide (val xs < val ys)
  | [], [], _ => by simp [Op.bytesLess, val, valFrom]
  | a :: xs, b :: ys, h => by
    have hl : xs.length = ys.length := by simpa using h
    have ih := less_val xs ys hl
    have h1 := val_lt xs
    have h2 := val_lt ys
    rw [Op.bytesLess, ih, val_cons, val_cons, hl]
    rw [hl] at h1
    generalize 256 ^ ys.length = K at *
    rcases Nat.lt_trichotomy a.toNat b.toNat with h3 | h3 | h3
    · have e1 : a < b := h3
      have e2 : a.toNat * K + val xs < b.toNat * K + val ys := by
        have : (a.toNat + 1) * K ≤ b.toNat * K := Nat.mul_le_mul_right K h3
        rw [Nat.add_mul] at this
        omega
      simp [e1, e2]
    · have e1 : a = b := UInt8.toNat_inj.1 h3
      subst e1
      simp
    · have e1 : ¬ a < b := fun h => by have : a.toNat < b.toNat := h; omega
      have e0 : a ≠ b := fun h => by subst h; omega
      have e2 : ¬ a.toNat * K + val xs < b.toNat * K + val ys := by
        have : (b.toNat + 1) * K ≤ a.toNat * K := Nat.mul_le_mul_right K h3
        rw [Nat.add_mul] at this
        omega
      simp [e1, e2, e0]
theorem less_be (x y s : Nat) (hx : x < 256 ^ s) (hy : y < 256 ^ s) : Op.bytesLess (be x s) (be y s) = decide (x < y) := by
  rw [less_val _ _ (by rw [be_length, be_length]), val_be s x hx, val_be s y hy]
theorem be_inj (x y s : Nat) (hx : x < 256 ^ s) (hy : y < 256 ^ s) : be x s = be y s ↔ x = y := by
  refine ⟨fun h => ?_, fun h => by rw [h]⟩
  rw [← val_be s x hx, h, val_be s y hy]
theorem beq_be (x y s : Nat) (hx : x < 256 ^ s) (hy : y < 256 ^ s) : (be x s == be y s) = decide (x = y) := by
  rw [Bool.eq_iff_iff, beq_iff_eq, decide_eq_true_iff, be_inj x y s hx hy]
theorem beq_be' (x y s : Nat) (hx : x < 256 ^ s) (hy : y < 256 ^ s) : (be x s == be y s) = ((x : Int) == (y : Int)) := by
  rw [beq_be x y s hx hy, Bool.eq_iff_iff, beq_iff_eq, decide_eq_true_iff]
  omega
/-- One byte more ahead. -/
theorem be_cons (k : Nat) : ∀ n, be n (k + 1) = UInt8.ofNat (n / 256 ^ k) :: be n k := by
  induction k with
  | zero => intro n; simp [be]
  | succ k ih =>
    intro n
    rw [be, ih (n / 256), be, Nat.div_div_eq_div_mul, Nat.pow_succ', List.cons_append]
theorem be_mod (s : Nat) : ∀ n, be (n % 256 ^ s) s = be n s := by
  induction s with
  | zero => intro n; rfl
  | succ s ih =>
    intro n
    have h1 : n % 256 ^ (s + 1) / 256 = n / 256 % 256 ^ s := by
      rw [Nat.pow_succ', Nat.mod_mul_right_div_self]
    have h2 : UInt8.ofNat (n % 256 ^ (s + 1)) = UInt8.ofNat n := by
      apply UInt8.toNat_inj.1
      simp only [UInt8.toNat_ofNat']
      rw [Nat.pow_succ]
      exact Nat.mod_mul_left_mod n (256 ^ s) 256
    rw [be, be, h1, h2, ih]
/-- More bytes: noughts ahead. -/
theorem be_wide (x s : Nat) : ∀ k, x < 256 ^ s → be x (k + s) = List.replicate k 0 ++ be x s := by
  induction s generalizing x with
  | zero =>
    intro k h
    have hx : x = 0 := by simpa using h
    subst hx
    clear h
    induction k with
    | zero => rfl
    | succ k ih =>
      have : be 0 (k + 1 + 0) = be 0 (k + 0) ++ [0] := rfl
      rw [this, ih]
      simp [be, List.replicate_succ']
  | succ s ih =>
    intro k h
    rw [Nat.pow_succ] at h
    rw [← Nat.add_assoc, be, be, ih (x / 256) k (by omega), List.append_assoc]
end Go.Th
