/-
  Prefixes and rules: plain numbers and lists, no program in sight.
-/
import Derived.Test.YteellpcagdnikaaBase
namespace Go.Th
/-- How long a prefix is, made 0 to 32; how many bits are behind it; its mask. -/
def clamp (n : Int) : Nat := if n < 0 then 0 else if 32 < n then 32 else n.toNat
def sh (n : Int) : Nat := 32 - clamp n
def maskN (n : Int) : Nat := 4294967296 - 2 ^ sh n
theorem clamp_le (n : Int) : clamp n ≤ 32 := by unfold clamp; split <;> (try split) <;> omega
theorem sh_le (n : Int) : sh n ≤ 32 := by unfold sh; omega
theorem sh_in {n : Int} (h : 0 ≤ n) (h2 : n ≤ 32) : sh n = 32 - n.toNat := by unfold sh clamp; rw [if_neg (by omega), if_neg (by omega)]
theorem pow_sh (n : Int) : 1 ≤ 2 ^ sh n ∧ 2 ^ sh n ≤ 4294967296 := ⟨Nat.one_le_two_pow, by have := Nat.pow_le_pow_right (n := 2) (by omega) (sh_le n); omega⟩
theorem maskN_lt (n : Int) : maskN n < 4294967296 := by unfold maskN; have := pow_sh n; omega
/-- The bits of a prefix, as a number. -/
def head (a n : Int) : Nat := a.toNat / 2 ^ sh n
def holds (a n x : Int) : Bool := decide (head a n = head x n)
def pmay (a n : Int) : Int := if n < 0 ∨ 32 < n then 1 else if a.toNat % 2 ^ sh n = 0 then 0 else 8
def icmp (a b : Int) : Int := if a < b then -1 else if b < a then 1 else 0
def pcmp (a m b n : Int) : Int := if a = b then icmp m n else icmp a b

/-- Bits. -/
theorem and_high (x s : Nat) (hx : x < 4294967296) (hs : s ≤ 32) : x &&& (4294967296 - 2 ^ s) = x / 2 ^ s * 2 ^ s := by
  have e : 4294967296 - 2 ^ s = (2 ^ (32 - s) - 1) <<< s := by
    rw [Nat.shiftLeft_eq, Nat.sub_mul, ← Nat.pow_add, show 32 - s + s = 32 by omega, Nat.one_mul]
  rw [e]
  apply Nat.eq_of_testBit_eq
  intro i
  rw [Nat.testBit_and, Nat.testBit_shiftLeft, Nat.testBit_two_pow_sub_one, ← Nat.shiftRight_eq_div_pow, ← Nat.shiftLeft_eq, Nat.testBit_shiftLeft, Nat.testBit_shiftRight]
  by_cases h : s ≤ i
  · rw [show s + (i - s) = i by omega]
    by_cases h2 : i < 32
    · simp [h, show i - s < 32 - s by omega]
    · have hb : x.testBit i = false := Nat.testBit_lt_two_pow (Nat.lt_of_lt_of_le hx (by have := Nat.pow_le_pow_right (n := 2) (by omega) (show 32 ≤ i by omega); omega))
      simp [hb]
  · simp [h]
theorem and_u32 (a b : Nat) (ha : a < 4294967296) (hb : b < 4294967296) : bits .and .u32 (a : Int) (b : Int) = ((a &&& b : Nat) : Int) := by
  have hx : a &&& b < 2 ^ 32 := Nat.and_lt_two_pow _ (by omega)
  show IntKind.u32.wrap ((BitVec.ofInt 32 (a : Int) &&& BitVec.ofInt 32 (b : Int)).toNat : Int) = _
  rw [BitVec.toNat_and, BitVec.ofInt_natCast, BitVec.ofInt_natCast, BitVec.toNat_ofNat, BitVec.toNat_ofNat, Nat.mod_eq_of_lt (show a < 2 ^ 32 by omega), Nat.mod_eq_of_lt (show b < 2 ^ 32 by omega), IntKind.wrap_u32]
  omega
theorem xor_u32 (a b : Nat) (ha : a < 4294967296) (hb : b < 4294967296) : bits .xor .u32 (a : Int) (b : Int) = ((a ^^^ b : Nat) : Int) := by
  have hx : a ^^^ b < 2 ^ 32 := Nat.xor_lt_two_pow (by omega) (by omega)
  show IntKind.u32.wrap ((BitVec.ofInt 32 (a : Int) ^^^ BitVec.ofInt 32 (b : Int)).toNat : Int) = _
  rw [BitVec.toNat_xor, BitVec.ofInt_natCast, BitVec.ofInt_natCast, BitVec.toNat_ofNat, BitVec.toNat_ofNat, Nat.mod_eq_of_lt (show a < 2 ^ 32 by omega), Nat.mod_eq_of_lt (show b < 2 ^ 32 by omega), IntKind.wrap_u32]
  omega
theorem andNot_u32 (a s : Nat) (ha : a < 4294967296) (hs : s ≤ 32) : bits .andNot .u32 (a : Int) ((4294967296 - 2 ^ s : Nat) : Int) = ((a % 2 ^ s : Nat) : Int) := by
  have hp : 1 ≤ 2 ^ s ∧ 2 ^ s ≤ 4294967296 := ⟨Nat.one_le_two_pow, by have := Nat.pow_le_pow_right (n := 2) (by omega) hs; omega⟩
  show IntKind.u32.wrap ((BitVec.ofInt 32 (a : Int) &&& ~~~(BitVec.ofInt 32 ((4294967296 - 2 ^ s : Nat) : Int))).toNat : Int) = _
  rw [BitVec.toNat_and, BitVec.toNat_not, BitVec.ofInt_natCast, BitVec.ofInt_natCast, BitVec.toNat_ofNat, BitVec.toNat_ofNat, Nat.mod_eq_of_lt (show a < 2 ^ 32 by omega), Nat.mod_eq_of_lt (show 4294967296 - 2 ^ s < 2 ^ 32 by omega), IntKind.wrap_u32]
  rw [show 2 ^ 32 - 1 - (4294967296 - 2 ^ s) = 2 ^ s - 1 by omega, Nat.and_two_pow_sub_one_eq_mod]
  have := Nat.mod_lt a (show 2 ^ s > 0 by omega)
  omega
theorem shl_fin : ∀ s : Fin 33, (4294967295 * 2 ^ s.1 % 4294967296 : Int) = ((4294967296 - 2 ^ s.1 : Nat) : Int) := by decide +kernel
theorem shl_mask (s : Nat) (hs : s ≤ 32) : (4294967295 * 2 ^ s % 4294967296 : Int) = ((4294967296 - 2 ^ s : Nat) : Int) := shl_fin ⟨s, by omega⟩
/-- The bits of the mask, of what two addresses have unlike: none, just if both begin alike. -/
theorem xor_high (a x : Nat) (n : Int) (ha : a < 4294967296) (hx : x < 4294967296) : ((a ^^^ x) &&& maskN n = 0) ↔ a / 2 ^ sh n = x / 2 ^ sh n := by
  have hlt : a ^^^ x < 4294967296 := Nat.xor_lt_two_pow (n := 32) (by omega) (by omega)
  have hp := pow_sh n
  unfold maskN
  rw [and_high _ _ hlt (sh_le n), ← Nat.shiftRight_eq_div_pow, ← Nat.shiftRight_eq_div_pow, ← Nat.shiftRight_eq_div_pow, Nat.shiftRight_xor_distrib]
  constructor
  · intro h
    have : a >>> sh n ^^^ x >>> sh n = 0 := by
      rcases Nat.mul_eq_zero.1 h with h | h
      · exact h
      · omega
    exact Nat.eq_of_testBit_eq fun i => by have h2 := congrArg (fun z => z.testBit i) this; simpa using h2
  · intro h
    rw [h, Nat.xor_self, Nat.zero_mul]
/-- The mask, bit by bit: behind i bits. -/
def maskTo (k i : Nat) : Nat := 2 ^ i - 2 ^ (i - min i k)
theorem maskTo_lt (k i : Nat) (hi : i ≤ 31) : maskTo k i < 2147483648 := by
  unfold maskTo
  have h1 := Nat.pow_le_pow_right (n := 2) (by omega) hi
  have h2 : 1 ≤ 2 ^ (i - min i k) := Nat.one_le_two_pow
  omega
theorem maskTo_in (k i : Nat) (h : i < k) : maskTo k (i + 1) = maskTo k i * 2 + 1 := by
  unfold maskTo
  rw [show i + 1 - min (i + 1) k = 0 by omega, show i - min i k = 0 by omega, Nat.pow_succ]
  have : 1 ≤ 2 ^ i := Nat.one_le_two_pow
  omega
theorem maskTo_out (k i : Nat) (h : k ≤ i) : maskTo k (i + 1) = maskTo k i * 2 := by
  unfold maskTo
  rw [show i + 1 - min (i + 1) k = (i - min i k) + 1 by omega, Nat.pow_succ, Nat.pow_succ, Nat.sub_mul]
theorem maskTo_end (n : Int) : maskTo (clamp n) 32 = maskN n := by
  unfold maskTo maskN sh
  have := clamp_le n
  rw [show 32 - min 32 (clamp n) = 32 - clamp n by omega]
/-- One bit. -/
def bitN (a i : Nat) : Nat := a / 2 ^ (31 - i) % 2
theorem head_step (a i : Nat) (hi : i < 32) : a / 2 ^ (32 - (i + 1)) = a / 2 ^ (32 - i) * 2 + bitN a i := by
  unfold bitN
  have e : 32 - i = (32 - (i + 1)) + 1 := by omega
  rw [e, Nat.pow_succ, ← Nat.div_div_eq_div_mul, show 31 - i = 32 - (i + 1) by omega]
  omega
theorem head_bit (a x i : Nat) (hi : i < 32) (h : a / 2 ^ (32 - i) = x / 2 ^ (32 - i)) : a / 2 ^ (32 - (i + 1)) = x / 2 ^ (32 - (i + 1)) ↔ bitN a i = bitN x i := by
  rw [head_step a i hi, head_step x i hi, h]
  omega
theorem head_more (a x i j : Nat) (hij : i ≤ j) (h : a / 2 ^ i = x / 2 ^ i) : a / 2 ^ j = x / 2 ^ j := by
  obtain ⟨d, rfl⟩ : ∃ d, j = i + d := ⟨j - i, by omega⟩
  rw [Nat.pow_add, ← Nat.div_div_eq_div_mul, ← Nat.div_div_eq_div_mul, h]
theorem tail_bit (y i : Nat) (hi : i < 32) (h : y < 2 ^ (32 - i)) : y < 2 ^ (32 - (i + 1)) ↔ bitN y i = 0 := by
  unfold bitN
  have e : 32 - i = (32 - (i + 1)) + 1 := by omega
  rw [e, Nat.pow_succ] at h
  rw [show 31 - i = 32 - (i + 1) by omega]
  obtain ⟨p, hp⟩ : ∃ p, 2 ^ (32 - (i + 1)) = p := ⟨_, rfl⟩
  have hp1 : 1 ≤ p := by rw [← hp]; exact Nat.one_le_two_pow
  rw [hp] at h ⊢
  have hq : y / p < 2 := Nat.div_lt_of_lt_mul (by rw [Nat.mul_comm]; omega)
  constructor
  · intro hy; rw [Nat.div_eq_of_lt hy]
  · intro hy
    have : y / p = 0 := by generalize y / p = q at *; omega
    rcases Nat.div_eq_zero_iff.1 this with h0 | h0 <;> omega
theorem bit_mod (a s i : Nat) (hs : 32 - s ≤ i) (hi : i < 32) (hs2 : s ≤ 32) : bitN (a % 2 ^ s) i = bitN a i := by
  unfold bitN
  obtain ⟨d, hd⟩ : ∃ d, s = (31 - i) + 1 + d := ⟨s - (31 - i) - 1, by omega⟩
  rw [hd, Nat.pow_add, Nat.pow_succ, Nat.mul_assoc, Nat.mod_mul_right_div_self, Nat.mod_mul_right_mod]
end Go.Th
