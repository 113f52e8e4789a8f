/-
  Numbers of as few bytes as may be: their parts, and that none begins another. Plain lists of bytes.
-/
import Derived.Test.YtgiefjbdkkdaiaaGroupMore
namespace Go.Th
theorem or128_fin : ∀ k : Fin 128, UInt8.ofNat k.1 ||| 128 = UInt8.ofNat (k.1 + 128) ∧ UInt8.ofNat (k.1 + 128) ||| 128 = UInt8.ofNat (k.1 + 128) := by decide +kernel
theorem or128_low (k : Nat) (h : k < 128) : UInt8.ofNat k ||| 128 = UInt8.ofNat (k + 128) := (or128_fin ⟨k, h⟩).1
theorem or128_high (k : Nat) (h : k < 128) : UInt8.ofNat (k + 128) ||| 128 = UInt8.ofNat (k + 128) := (or128_fin ⟨k, h⟩).2
theorem gd_or : ∀ (s n : Nat), (gd n s).map (· ||| 128) = gd n s
  | 0, _ => rfl
  | s + 1, n => by
    rw [gd, List.map_append, gd_or s]
    show _ ++ [UInt8.ofNat (n % 128 + 128) ||| 128] = _
    rw [or128_high _ (Nat.mod_lt _ (by omega))]
theorem gput_or (m : Nat) : (gput m).map (· ||| 128) = gd m (gsize m) := by
  obtain ⟨r, hr⟩ : ∃ r, gsize m = r + 1 := ⟨gsize m - 1, by have := (gsize_pos m).1; omega⟩
  rw [gput, hr, Nat.add_sub_cancel, List.map_append, gd_or, gd]
  show _ ++ [UInt8.ofNat (m % 128) ||| 128] = _
  rw [or128_low _ (Nat.mod_lt _ (by omega))]
theorem gput_bits {x : Nat} (h : 128 ≤ x) (h2 : x < 268435456) : gput x = (gput (x / 128)).map (· ||| 128) ++ [UInt8.ofNat (x % 128)] := by
  rw [gput_or, gput]
  have := gsize_step h h2
  rw [show gsize x - 1 = gsize (x / 128) by omega]
theorem gput_last (x r : Nat) (h : gsize x = r + 1) : (gput x)[r]? = some (UInt8.ofNat (x % 128)) := by
  rw [gput, h, Nat.add_sub_cancel, List.getElem?_append_right (by rw [gd_length]; exact Nat.le_refl _), gd_length, Nat.sub_self]
  rfl
theorem gput_bit {x : Nat} (h : 128 ≤ x) (h2 : x < 268435456) (i : Nat) (hi : i < gsize (x / 128)) (b c : UInt8) (hb : (gput x)[i]? = some b) (hc : (gput (x / 128))[i]? = some c) : b = c ||| 128 := by
  rw [gput_bits h h2, List.getElem?_append_left (by rw [List.length_map, gput_length]; exact hi), List.getElem?_map, hc] at hb
  injection hb with hb
  exact hb.symm
theorem or_u8_fin : ∀ k : Fin 256, bits .or .u8 (k.1 : Int) 128 = ((UInt8.ofNat k.1 ||| 128).toNat : Int) := by decide +kernel
theorem or_u8 (c : UInt8) : bits .or .u8 (c.toNat : Int) 128 = ((c ||| 128).toNat : Int) := by
  have := or_u8_fin ⟨c.toNat, c.toNat_lt⟩
  rw [UInt8.ofNat_toNat] at this
  exact this
/-- No number's bytes begin with another one's. -/
theorem gput_free (x y : Nat) (hx : x < 268435456) (hy : y < 268435456) (k : Nat) (hk : k = min (gsize x) (gsize y)) (h : (gput x).take k = (gput y).take k) : x = y := by
  rcases Nat.le_total (gsize x) (gsize y) with hl | hl
  · have e : gput y = gput x ++ (gput y).drop k := by
      have : gput x = (gput y).take k := by rw [← h, List.take_of_length_le (by rw [gput_length]; omega)]
      rw [this, List.take_append_drop]
    have h1 := gtake_gput x hx ((gput y).drop k)
    have h2 := gtake_gput y hy []
    rw [List.append_nil] at h2
    rw [← e, h2] at h1
    exact (congrArg Prod.fst h1).symm
  · have e : gput x = gput y ++ (gput x).drop k := by
      have : gput y = (gput x).take k := by rw [h, List.take_of_length_le (by rw [gput_length]; omega)]
      rw [this, List.take_append_drop]
    have h1 := gtake_gput y hy ((gput x).drop k)
    have h2 := gtake_gput x hx []
    rw [List.append_nil] at h2
    rw [← e, h2] at h1
    exact congrArg Prod.fst h1
/-- Numbers, one behind the other. -/
def gcat (xs : List Nat) : List UInt8 := xs.flatMap gput
theorem gcat_take {xs : List Nat} {k x : Nat} (h : xs[k]? = some x) : gcat (xs.take (k + 1)) = gcat (xs.take k) ++ gput x := by
  rw [List.take_add_one, h]
  unfold gcat
  rw [List.flatMap_append]
  simp
theorem gcat_drop (xs : List Nat) (k : Nat) : (gcat xs).drop (gcat (xs.take k)).length = gcat (xs.drop k) := by
  have e : gcat xs = gcat (xs.take k) ++ gcat (xs.drop k) := by
    unfold gcat
    rw [← List.flatMap_append, List.take_append_drop]
  rw [e, List.drop_left]
theorem gcat_cons {xs : List Nat} {k x : Nat} (h : xs[k]? = some x) : gcat (xs.drop k) = gput x ++ gcat (xs.drop (k + 1)) := by
  obtain ⟨hl, rfl⟩ := List.getElem?_eq_some_iff.1 h
  rw [List.drop_eq_getElem_cons hl]
  unfold gcat
  rw [List.flatMap_cons]
theorem gcat_le (xs : List Nat) (k : Nat) : (gcat (xs.take k)).length ≤ (gcat xs).length := by
  have e : gcat xs = gcat (xs.take k) ++ gcat (xs.drop k) := by
    unfold gcat
    rw [← List.flatMap_append, List.take_append_drop]
  rw [e, List.length_append]
  omega
theorem gcat_four : ∀ xs : List Nat, (gcat xs).length ≤ 4 * xs.length
  | [] => by simp [gcat]
  | x :: xs => by
    have := gcat_four xs
    have h2 := gsize_pos x
    rw [gcat, List.flatMap_cons, List.length_append, gput_length, List.length_cons]
    unfold gcat at this
    omega
end Go.Th
