/-
  Numbers of as few bytes as may be: the plain laws.
-/
import Derived.Test.YtgiefjbdkkdaiaaGroupPlain
namespace Go.Th

def hi7 (a : Nat) : UInt8 := UInt8.ofNat (a % 128 + 128)
def lo7 (a : Nat) : UInt8 := UInt8.ofNat (a % 128)
theorem hi7_toNat (a : Nat) : (hi7 a).toNat = a % 128 + 128 := by unfold hi7; simp; omega
theorem lo7_toNat (a : Nat) : (lo7 a).toNat = a % 128 := by unfold lo7; simp; omega
theorem u8_ext {x y : UInt8} (h : x.toNat = y.toNat) : x = y := UInt8.toNat_inj.1 h
theorem hi7_ne {a : Nat} (h : a % 128 ≠ 0) : hi7 a ≠ 128 := fun e => by
  have := congrArg UInt8.toNat e
  rw [hi7_toNat] at this
  simp at this
  omega
theorem lo7_ne (a : Nat) : lo7 a ≠ 128 := fun e => by
  have := congrArg UInt8.toNat e
  rw [lo7_toNat] at this
  simp at this
  omega
theorem gput1 {x : Nat} (h : x < 128) : gput x = [lo7 x] := by rw [gput, gsize_small h]; rfl
theorem gput2 {x : Nat} (h : 128 ≤ x) (h2 : x < 16384) : gput x = [hi7 (x / 128), lo7 x] := by
  have e : gsize x = 2 := by unfold gsize; rw [if_neg (by omega), if_pos (by omega)]
  rw [gput, e]; rfl
theorem gput3 {x : Nat} (h : 16384 ≤ x) (h2 : x < 2097152) : gput x = [hi7 (x / 128 / 128), hi7 (x / 128), lo7 x] := by
  have e : gsize x = 3 := by unfold gsize; rw [if_neg (by omega), if_neg (by omega), if_pos (by omega)]
  rw [gput, e]; rfl
theorem gput4 {x : Nat} (h : 2097152 ≤ x) : gput x = [hi7 (x / 128 / 128 / 128), hi7 (x / 128 / 128), hi7 (x / 128), lo7 x] := by
  have e : gsize x = 4 := by unfold gsize; rw [if_neg (by omega), if_neg (by omega), if_neg (by omega)]
  rw [gput, e]; rfl
theorem gt_hi7 (f v c a : Nat) (bs : List UInt8) : gt (f + 1) v c (hi7 a :: bs) = gt f (v * 128 + a % 128) (c + 1) bs := by
  rw [gt, if_neg (by rw [hi7_toNat]; omega), hi7_toNat, Nat.add_sub_cancel]
theorem gt_lo7 (f v c a : Nat) (bs : List UInt8) : gt (f + 1) v c (lo7 a :: bs) = (v * 128 + a % 128, c + 1, 0) := by
  rw [gt, if_pos (by rw [lo7_toNat]; omega), lo7_toNat]
theorem gtake_cons {b : UInt8} {bs : List UInt8} (h : b ≠ 128) : gtake (b :: bs) = gt 4 0 0 (b :: bs) := by
  unfold gtake
  rw [if_neg]
  intro e
  rw [List.getElem?_cons_zero] at e
  injection e with e
  exact h e
theorem sizes (x : Nat) : x < 128 ∨ (128 ≤ x ∧ x < 16384) ∨ (16384 ≤ x ∧ x < 2097152) ∨ 2097152 ≤ x := by omega

/-- What was put is taken, whatever stands behind. -/
theorem gtake_gput (x : Nat) (h : x < 268435456) (bs : List UInt8) : gtake (gput x ++ bs) = (x, gsize x, 0) := by
  rw [← gput_length]
  rcases sizes x with h1 | ⟨h1, h2⟩ | ⟨h1, h2⟩ | h1
  · rw [gput1 h1, List.cons_append, gtake_cons (lo7_ne _), gt_lo7]
    simp; omega
  · rw [gput2 h1 h2, List.cons_append, gtake_cons (hi7_ne (by omega)), gt_hi7, List.cons_append, gt_lo7]
    simp; omega
  · rw [gput3 h1 h2, List.cons_append, gtake_cons (hi7_ne (by omega)), gt_hi7, List.cons_append, gt_hi7, List.cons_append, gt_lo7]
    simp; omega
  · rw [gput4 h1, List.cons_append, gtake_cons (hi7_ne (by omega)), gt_hi7, List.cons_append, gt_hi7, List.cons_append, gt_hi7, List.cons_append, gt_lo7]
    simp; omega
theorem gtake_nil : gtake [] = (0, 0, 2) := rfl
/-- Each beginning of it is too short. -/
theorem gtake_short (x : Nat) (h : x < 268435456) (i : Nat) (hi : i < gsize x) : gtake ((gput x).take i) = (0, 0, 2) := by
  rw [← gput_length] at hi
  rcases i with _ | _ | _ | _ | i
  · rw [List.take_zero]; rfl
  · rcases sizes x with h1 | ⟨h1, h2⟩ | ⟨h1, h2⟩ | h1
    · rw [gput1 h1] at hi; simp at hi
    · rw [gput2 h1 h2, List.take_succ_cons, gtake_cons (hi7_ne (by omega)), gt_hi7]; rfl
    · rw [gput3 h1 h2, List.take_succ_cons, gtake_cons (hi7_ne (by omega)), gt_hi7]; rfl
    · rw [gput4 h1, List.take_succ_cons, gtake_cons (hi7_ne (by omega)), gt_hi7]; rfl
  · rcases sizes x with h1 | ⟨h1, h2⟩ | ⟨h1, h2⟩ | h1
    · rw [gput1 h1] at hi; simp at hi
    · rw [gput2 h1 h2] at hi; simp at hi
    · rw [gput3 h1 h2, List.take_succ_cons, gtake_cons (hi7_ne (by omega)), gt_hi7, List.take_succ_cons, gt_hi7]; rfl
    · rw [gput4 h1, List.take_succ_cons, gtake_cons (hi7_ne (by omega)), gt_hi7, List.take_succ_cons, gt_hi7]; rfl
  · rcases sizes x with h1 | ⟨h1, h2⟩ | ⟨h1, h2⟩ | h1
    · rw [gput1 h1] at hi; simp at hi
    · rw [gput2 h1 h2] at hi; simp at hi
    · rw [gput3 h1 h2] at hi; simp at hi
    · rw [gput4 h1, List.take_succ_cons, gtake_cons (hi7_ne (by omega)), gt_hi7, List.take_succ_cons, gt_hi7, List.take_succ_cons, gt_hi7]; rfl
  · have := (gsize_pos x).2
    rw [gput_length] at hi
    omega
/-- A group of nought ahead is no form. -/
theorem gtake_nought (bs : List UInt8) : gtake (128 :: bs) = (0, 0, 3) := rfl

theorem hi7_of {b : UInt8} {a : Nat} (h : b.toNat = a % 128 + 128) : hi7 a = b := u8_ext (by rw [hi7_toNat, h])
theorem lo7_of {b : UInt8} {a : Nat} (h : b.toNat = a % 128) : lo7 a = b := u8_ext (by rw [lo7_toNat, h])
/-- What is told of any bytes: they are too short, or no form, or just what was put. -/
theorem gtake_what (bs : List UInt8) : (gtake bs = (0, 0, 2) ∧ bs.length < 4) ∨ gtake bs = (0, 0, 3) ∨
    ∃ n k, gtake bs = (n, k, 0) ∧ n < 268435456 ∧ 1 ≤ k ∧ k ≤ bs.length ∧ k ≤ 4 ∧ gput n = bs.take k := by
  rcases bs with _ | ⟨b0, bs⟩
  · exact .inl ⟨rfl, by simp⟩
  by_cases h128 : b0 = 128
  · subst h128; exact .inr (.inl rfl)
  have n128 : b0.toNat ≠ 128 := fun e => h128 (u8_ext (by rw [e]; rfl))
  rw [gtake_cons h128]
  have l0 := b0.toNat_lt
  by_cases c0 : b0.toNat < 128
  · right; right
    refine ⟨b0.toNat, 1, by rw [gt, if_pos c0]; simp, by omega, by omega, by simp, by omega, ?_⟩
    rw [gput1 c0, List.take_succ_cons, List.take_zero, lo7_of (b := b0) (by omega)]
  rw [gt, if_neg c0]
  rcases bs with _ | ⟨b1, bs⟩
  · exact .inl ⟨rfl, by simp⟩
  have l1 := b1.toNat_lt
  by_cases c1 : b1.toNat < 128
  · right; right
    obtain ⟨x, hx⟩ : ∃ x, (0 * 128 + (b0.toNat - 128)) * 128 + b1.toNat = x := ⟨_, rfl⟩
    refine ⟨x, 2, by rw [gt, if_pos c1, hx], by omega, by omega, by simp, by omega, ?_⟩
    rw [gput2 (by omega) (by omega), List.take_succ_cons, List.take_succ_cons, List.take_zero, hi7_of (b := b0) (by omega), lo7_of (b := b1) (by omega)]
  rw [gt, if_neg c1]
  rcases bs with _ | ⟨b2, bs⟩
  · exact .inl ⟨rfl, by simp⟩
  have l2 := b2.toNat_lt
  by_cases c2 : b2.toNat < 128
  · right; right
    obtain ⟨x, hx⟩ : ∃ x, ((0 * 128 + (b0.toNat - 128)) * 128 + (b1.toNat - 128)) * 128 + b2.toNat = x := ⟨_, rfl⟩
    refine ⟨x, 3, by rw [gt, if_pos c2, hx], by omega, by omega, by simp, by omega, ?_⟩
    rw [gput3 (by omega) (by omega), List.take_succ_cons, List.take_succ_cons, List.take_succ_cons, List.take_zero, hi7_of (b := b0) (by omega), hi7_of (b := b1) (by omega), lo7_of (b := b2) (by omega)]
  rw [gt, if_neg c2]
  rcases bs with _ | ⟨b3, bs⟩
  · exact .inl ⟨rfl, by simp⟩
  have l3 := b3.toNat_lt
  by_cases c3 : b3.toNat < 128
  · right; right
    obtain ⟨x, hx⟩ : ∃ x, (((0 * 128 + (b0.toNat - 128)) * 128 + (b1.toNat - 128)) * 128 + (b2.toNat - 128)) * 128 + b3.toNat = x := ⟨_, rfl⟩
    refine ⟨x, 4, by rw [gt, if_pos c3, hx], by omega, by omega, by simp, by omega, ?_⟩
    rw [gput4 (by omega), List.take_succ_cons, List.take_succ_cons, List.take_succ_cons, List.take_succ_cons, List.take_zero, hi7_of (b := b0) (by omega), hi7_of (b := b1) (by omega), hi7_of (b := b2) (by omega), lo7_of (b := b3) (by omega)]
  rw [gt, if_neg c3]
  exact .inr (.inl rfl)
end Go.Th
