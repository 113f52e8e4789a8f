/-
  The sum of bytes (layer 3) as a law in plain numbers: linear, one to one, and sure of up to 32 bits next to each other.
-/
import Derived.Test.YtgiefjbdkkdaiaaNumPlain
namespace Go.Th
def poly : Nat := 2197175160
/-- One bit on. -/
def ct (s : Nat) : Nat := if s % 2 = 1 then s / 2 ^^^ poly else s / 2
def ctn : Nat → Nat → Nat
  | 0, s => s
  | k + 1, s => ctn k (ct s)
def cstep (s : Nat) (c : UInt8) : Nat := ctn 8 (s ^^^ c.toNat)
def cfrom (s : Nat) (bs : List UInt8) : Nat := bs.foldl cstep s
def csum (bs : List UInt8) : Nat := cfrom 4294967295 bs ^^^ 4294967295
theorem ctn_succ' : ∀ (k s : Nat), ctn (k + 1) s = ct (ctn k s)
  | 0, _ => rfl
  | k + 1, s => ctn_succ' k (ct s)
theorem xor_lt32 {a b : Nat} (ha : a < 4294967296) (hb : b < 4294967296) : a ^^^ b < 4294967296 := Nat.xor_lt_two_pow (n := 32) ha hb
theorem ct_lt {s : Nat} (h : s < 4294967296) : ct s < 4294967296 := by
  unfold ct
  split
  · exact xor_lt32 (by omega) (by decide)
  · omega
theorem ctn_lt : ∀ (k : Nat) {s : Nat}, s < 4294967296 → ctn k s < 4294967296
  | 0, _, h => h
  | k + 1, _, h => ctn_lt k (ct_lt h)
theorem cstep_lt {s : Nat} (h : s < 4294967296) (c : UInt8) : cstep s c < 4294967296 := ctn_lt 8 (xor_lt32 h (by have := c.toNat_lt; omega))
theorem cfrom_lt : ∀ (bs : List UInt8) {s : Nat}, s < 4294967296 → cfrom s bs < 4294967296
  | [], _, h => h
  | c :: bs, _, h => cfrom_lt bs (cstep_lt h c)
theorem csum_lt (bs : List UInt8) : csum bs < 4294967296 := xor_lt32 (cfrom_lt bs (by omega)) (by omega)
theorem cfrom_snoc (s : Nat) (bs : List UInt8) (c : UInt8) : cfrom s (bs ++ [c]) = cstep (cfrom s bs) c := by simp [cfrom]
theorem cfrom_append (s : Nat) (xs ys : List UInt8) : cfrom s (xs ++ ys) = cfrom (cfrom s xs) ys := by simp [cfrom]
theorem xor_mod2 (u x : Nat) : (u ^^^ 2 * x) % 2 = u % 2 := by
  have := Nat.xor_mod_two_pow (a := u) (b := 2 * x) (n := 1)
  rw [show (2 : Nat) ^ 1 = 2 from rfl] at this
  rw [this, Nat.mul_mod_right, Nat.xor_zero]
theorem xor_div2 (u x : Nat) : (u ^^^ 2 * x) / 2 = u / 2 ^^^ x := by
  have := Nat.xor_div_two_pow (a := u) (b := 2 * x) (n := 1)
  rw [show (2 : Nat) ^ 1 = 2 from rfl] at this
  rw [this, Nat.mul_div_cancel_left _ (by decide)]
theorem ct_xor (u x : Nat) : ct (u ^^^ 2 * x) = ct u ^^^ x := by
  unfold ct
  rw [xor_mod2, xor_div2]
  split
  · rw [Nat.xor_assoc, Nat.xor_assoc, Nat.xor_comm x]
  · rfl
theorem ctn_xor : ∀ (k u x : Nat), ctn k (u ^^^ 2 ^ k * x) = ctn k u ^^^ x
  | 0, u, x => by simp [ctn]
  | k + 1, u, x => by
    have := ctn_xor k (ct u) x
    rw [ctn, show 2 ^ (k + 1) * x = 2 * (2 ^ k * x) by rw [Nat.pow_succ]; rw [Nat.mul_comm (2 ^ k) 2, Nat.mul_assoc], ct_xor, this]
    rfl
theorem low_high (u : Nat) : u = u % 256 ^^^ 256 * (u / 256) := by
  apply Nat.eq_of_testBit_eq
  intro i
  rw [Nat.testBit_xor, show (256 : Nat) = 2 ^ 8 from rfl, Nat.testBit_mod_two_pow, Nat.testBit_two_pow_mul]
  by_cases h : i < 8
  · simp [h, show ¬ 8 ≤ i by omega]
  · have h8 : 8 ≤ i := by omega
    simp only [h, decide_false, Bool.false_and, h8, decide_true, Bool.true_and, Bool.false_xor]
    rw [Nat.testBit_div_two_pow, Nat.sub_add_cancel h8]
/-- A byte on, by a table of the 256 steps from nought. -/
theorem cstep_table (s : Nat) (c : UInt8) : cstep s c = s / 256 ^^^ ctn 8 (s % 256 ^^^ c.toNat) := by
  unfold cstep
  have h : s ^^^ c.toNat = (s % 256 ^^^ c.toNat) ^^^ 2 ^ 8 * (s / 256) := by
    conv => lhs; rw [low_high s]
    rw [Nat.xor_assoc, Nat.xor_assoc, Nat.xor_comm c.toNat]
  rw [h, ctn_xor, Nat.xor_comm]
theorem ct_inj {s t : Nat} (hs : s < 4294967296) (ht : t < 4294967296) (h : ct s = ct t) : s = t := by
  have hb : ∀ u, u < 4294967296 → (u / 2 ^^^ poly).testBit 31 = true := fun u hu => by
    rw [Nat.testBit_xor, Nat.testBit_lt_two_pow (x := u / 2) (i := 31) (by omega)]
    decide
  have hl : ∀ u, u < 4294967296 → (u / 2).testBit 31 = false := fun u hu => Nat.testBit_lt_two_pow (by omega)
  have hx : ∀ a b : Nat, a ^^^ poly = b ^^^ poly → a = b := fun a b e => by
    have := congrArg (· ^^^ poly) e
    simpa [Nat.xor_assoc] using this
  unfold ct at h
  split at h <;> split at h
  · have := hx _ _ h; omega
  · have := hb s hs; rw [h, hl t ht] at this; cases this
  · have := hb t ht; rw [← h, hl s hs] at this; cases this
  · omega
theorem ctn_inj : ∀ (k : Nat) {s t : Nat}, s < 4294967296 → t < 4294967296 → ctn k s = ctn k t → s = t
  | 0, _, _, _, _, h => h
  | k + 1, _, _, hs, ht, h => ct_inj hs ht (ctn_inj k (ct_lt hs) (ct_lt ht) h)
theorem xor_right_inj {a b c : Nat} (h : a ^^^ c = b ^^^ c) : a = b := by
  have := congrArg (· ^^^ c) h
  simpa [Nat.xor_assoc] using this
theorem cstep_inj {s t : Nat} (hs : s < 4294967296) (ht : t < 4294967296) (c : UInt8) (h : cstep s c = cstep t c) : s = t := by
  have hc : c.toNat < 4294967296 := by have := c.toNat_lt; omega
  exact xor_right_inj (ctn_inj 8 (xor_lt32 hs hc) (xor_lt32 ht hc) h)
theorem cfrom_inj : ∀ (bs : List UInt8) {s t : Nat}, s < 4294967296 → t < 4294967296 → cfrom s bs = cfrom t bs → s = t
  | [], _, _, _, _, h => h
  | c :: bs, _, _, hs, ht, h => cstep_inj hs ht c (cfrom_inj bs (cstep_lt hs c) (cstep_lt ht c) h)
theorem xor_both2 (u v : Nat) : (u ^^^ v) % 2 = if u % 2 = v % 2 then 0 else 1 := by
  have := Nat.xor_mod_two_pow (a := u) (b := v) (n := 1)
  rw [show (2 : Nat) ^ 1 = 2 from rfl] at this
  rw [this]
  rcases Nat.mod_two_eq_zero_or_one u with h | h <;> rcases Nat.mod_two_eq_zero_or_one v with h' | h' <;> rw [h, h'] <;> decide
theorem xor_half (u v : Nat) : (u ^^^ v) / 2 = u / 2 ^^^ v / 2 := by
  have := Nat.xor_div_two_pow (a := u) (b := v) (n := 1)
  rwa [show (2 : Nat) ^ 1 = 2 from rfl] at this
theorem ct_lin (u v : Nat) : ct (u ^^^ v) = ct u ^^^ ct v := by
  unfold ct
  rw [xor_both2, xor_half]
  have hp : ∀ a b : Nat, (a ^^^ poly) ^^^ (b ^^^ poly) = a ^^^ b := fun a b => by
    rw [Nat.xor_assoc, Nat.xor_comm b poly, ← Nat.xor_assoc poly, Nat.xor_self, Nat.zero_xor]
  rcases Nat.mod_two_eq_zero_or_one u with h | h <;> rcases Nat.mod_two_eq_zero_or_one v with h' | h' <;> rw [h, h'] <;> simp
  · rw [Nat.xor_assoc]
  · rw [Nat.xor_assoc, Nat.xor_assoc, Nat.xor_comm poly]
  · exact (hp _ _).symm
theorem ctn_lin : ∀ (k u v : Nat), ctn k (u ^^^ v) = ctn k u ^^^ ctn k v
  | 0, _, _ => rfl
  | k + 1, u, v => by rw [ctn, ctn, ctn, ct_lin, ctn_lin k]
theorem ctn_zero : ∀ k, ctn k 0 = 0
  | 0 => rfl
  | k + 1 => ctn_zero k
theorem ctn_add : ∀ (j k s : Nat), ctn (j + k) s = ctn k (ctn j s)
  | 0, k, s => by rw [Nat.zero_add]; rfl
  | j + 1, k, s => by rw [Nat.add_right_comm]; exact ctn_add j k (ct s)
/-- Bytes as one number, the first one lowest. -/
def le : List UInt8 → Nat
  | [] => 0
  | c :: bs => c.toNat ^^^ 256 * le bs
theorem cfrom_le : ∀ (bs : List UInt8) (s : Nat), cfrom s bs = ctn (8 * bs.length) (s ^^^ le bs)
  | [], s => by simp [cfrom, le, ctn]
  | c :: bs, s => by
    have h : cfrom s (c :: bs) = cfrom (cstep s c) bs := rfl
    have e : s ^^^ (c.toNat ^^^ 256 * le bs) = (s ^^^ c.toNat) ^^^ 2 ^ 8 * le bs := by rw [Nat.xor_assoc]
    rw [h, cfrom_le bs, le, e, List.length_cons, Nat.mul_succ, Nat.add_comm _ 8, ctn_add, ctn_xor]
    rfl
/-- A bit is turned. -/
def flip (bs : List UInt8) (p : Nat) : List UInt8 := bs.set (p / 8) (bs.getD (p / 8) 0 ^^^ UInt8.ofNat (2 ^ (p % 8)))
theorem flip_length (bs : List UInt8) (p : Nat) : (flip bs p).length = bs.length := by simp [flip]
theorem bit_of (k : Nat) (h : k < 8) (c : UInt8) : (c ^^^ UInt8.ofNat (2 ^ k)).toNat = c.toNat ^^^ 2 ^ k := by
  rw [UInt8.toNat_xor]
  have : (UInt8.ofNat (2 ^ k)).toNat = 2 ^ k := by
    rw [UInt8.toNat_ofNat']
    exact Nat.mod_eq_of_lt (Nat.pow_lt_pow_right (by decide) h)
  rw [this]
theorem le_flip : ∀ (bs : List UInt8) (p : Nat), p < 8 * bs.length → le (flip bs p) = le bs ^^^ 2 ^ p
  | [], p, h => by simp at h
  | c :: bs, p, h => by
    by_cases hp : p < 8
    · have h0 : p / 8 = 0 := by omega
      have h1 : p % 8 = p := by omega
      unfold flip
      rw [h0, h1]
      simp only [List.set_cons_zero, List.getD_cons_zero, le]
      rw [bit_of p hp, Nat.xor_assoc, Nat.xor_assoc, Nat.xor_comm (2 ^ p)]
    · have h0 : p / 8 = (p - 8) / 8 + 1 := by omega
      have h1 : p % 8 = (p - 8) % 8 := by omega
      have ih := le_flip bs (p - 8) (by rw [List.length_cons] at h; omega)
      unfold flip at ih ⊢
      rw [h0, h1]
      simp only [List.set_cons_succ, List.getD_cons_succ, le]
      rw [ih]
      have e : 256 * (le bs ^^^ 2 ^ (p - 8)) = 256 * le bs ^^^ 2 ^ p := by
        have hx := Nat.shiftLeft_xor_distrib (a := le bs) (b := 2 ^ (p - 8)) (i := 8)
        rw [Nat.shiftLeft_eq, Nat.shiftLeft_eq, Nat.shiftLeft_eq] at hx
        rw [show (2 : Nat) ^ 8 = 256 from rfl] at hx
        have h8 : 8 + (p - 8) = p := by omega
        have h9 : 2 ^ (p - 8) * 256 = 2 ^ p := by
          rw [Nat.mul_comm, show (256 : Nat) = 2 ^ 8 from rfl, ← Nat.pow_add, h8]
        rw [Nat.mul_comm, hx, Nat.mul_comm (le bs), h9]
      rw [e, Nat.xor_assoc]
theorem flip_append (bs cs : List UInt8) (p : Nat) (h : p < 8 * bs.length) : flip (bs ++ cs) p = flip bs p ++ cs := by
  unfold flip
  have hl : p / 8 < bs.length := by omega
  rw [List.set_append_left _ _ hl]
  congr 3
  rw [List.getD_eq_getElem?_getD, List.getD_eq_getElem?_getD, List.getElem?_append_left hl]
/-- Up to 32 bits next to each other, the lowest one turned: the sum is another one. -/
theorem csum_burst {bs cs : List UInt8} (hl : cs.length = bs.length) {p e : Nat} (he : e ≠ 0) (he2 : e < 4294967296) (hp : p ≤ 8 * bs.length) (h : le cs = le bs ^^^ 2 ^ p * e) : csum cs ≠ csum bs := fun hs => by
  have h1 : ∀ s, cfrom s cs = cfrom s bs → ctn (8 * bs.length) (2 ^ p * e) = 0 := fun s h1 => by
    rw [cfrom_le, cfrom_le, hl, h, ← Nat.xor_assoc, ctn_lin] at h1
    have := congrArg (ctn (8 * bs.length) (s ^^^ le bs) ^^^ ·) h1
    simpa [← Nat.xor_assoc] using this
  have h2 := h1 _ (xor_right_inj hs)
  obtain ⟨k, hk⟩ : ∃ k, 8 * bs.length = p + k := ⟨8 * bs.length - p, by omega⟩
  have h3 : ctn p (2 ^ p * e) = e := by
    have := ctn_xor p 0 e
    rw [Nat.zero_xor, ctn_zero, Nat.zero_xor] at this
    exact this
  rw [hk, ctn_add, h3] at h2
  exact he (ctn_inj k he2 (by omega) (h2.trans (ctn_zero k).symm))
end Go.Th
