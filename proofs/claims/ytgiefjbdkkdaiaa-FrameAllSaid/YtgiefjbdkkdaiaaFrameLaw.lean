/-
  Frames and sections: what the statements say, on rows of bytes.
-/
import Derived.Test.YtgiefjbdkkdaiaaFramePlain
namespace Go.Th
theorem fput_split (m : Nat) (bs : List UInt8) (v : UInt8) : (fput m bs).set (bs.length + 7) v = fhead m bs ++ (be (csum (fhead m bs)) 4).set 3 v := by
  have e : bs.length + 7 = (fhead m bs).length + 3 := by rw [fhead_length]
  unfold fput
  rw [e, List.set_append_right _ _ (by omega), Nat.add_sub_cancel_left]
theorem fhead_take (m : Nat) (bs : List UInt8) : (fhead m bs).take 4 = be m 4 := by
  have := List.take_left (l₁ := be m 4) (l₂ := bs)
  rwa [be_length] at this
/-- The last byte is another one. -/
theorem ftake_spoilt (m : Nat) (bs : List UInt8) (x v : UInt8) (hx : (fput m bs)[bs.length + 7]? = some x) (hv : v ≠ x) : ftake m ((fput m bs).set (bs.length + 7) v) = ([], 6) := by
  rw [fput_split, ftake_parts (h := fhead m bs) (s := (be (csum (fhead m bs)) 4).set 3 v) (by rw [fhead_length]; omega) (by rw [List.length_set, be_length]) rfl, if_pos (fhead_take m bs), if_neg]
  intro e
  have h3 : ((be (csum (fhead m bs)) 4).set 3 v)[3]? = (be (csum (fhead m bs)) 4)[3]? := congrArg (fun l : List UInt8 => l[3]?) e
  rw [List.getElem?_set_self (by rw [be_length]; omega)] at h3
  have e2 : (fput m bs)[bs.length + 7]? = (be (csum (fhead m bs)) 4)[3]? := by
    have e : bs.length + 7 = (fhead m bs).length + 3 := by rw [fhead_length]
    unfold fput
    rw [e, List.getElem?_append_right (by omega), Nat.add_sub_cancel_left]
  rw [← e2, hx] at h3
  exact hv (Option.some.inj h3)
theorem ftake_spoilt_other {m k : Nat} (hm : m < 4294967296) (hk : k < 4294967296) (h : m ≠ k) (bs : List UInt8) (v : UInt8) : ftake k ((fput m bs).set (bs.length + 7) v) = ([], 5) := by
  rw [fput_split, ftake_parts (h := fhead m bs) (s := (be (csum (fhead m bs)) 4).set 3 v) (by rw [fhead_length]; omega) (by rw [List.length_set, be_length]) rfl, fhead_take, if_neg (fun e => h ((be_inj m k 4 (by omega) (by omega)).1 e))]
theorem fopen_form (c : UInt8) (r : List UInt8) : fopen c (c :: 128 :: r) = ([], [], 3) := by
  rw [fopen_cons, if_pos rfl, gtake_nought, if_neg (by decide)]
theorem fopen_two (c : UInt8) : fopen c [c, 2, 0] = ([], [], 2) := by
  rw [fopen_cons, if_pos rfl]
  rfl
theorem fopen_one (c : UInt8) : fopen c [c] = ([], [], 2) := by
  rw [fopen_cons, if_pos rfl]
  rfl
theorem next_ne (c : UInt8) : c + 1 ≠ c := fun e => by
  have := congrArg UInt8.toNat e
  rw [UInt8.toNat_add] at this
  have := c.toNat_lt
  have e1 : (1 : UInt8).toNat = 1 := rfl
  omega
theorem or_one_ne (c : UInt8) : (1 ||| c) ≠ 0 := fun e => by
  have h := congrArg UInt8.toNat e
  rw [UInt8.toNat_or] at h
  have : (1 ||| c.toNat).testBit 0 = true := by rw [Nat.testBit_or]; rfl
  have e1 : (1 : UInt8).toNat = 1 := rfl
  rw [e1] at h
  rw [h] at this
  cases this
theorem xor_ne {x d : UInt8} (h : d ≠ 0) : x ^^^ d ≠ x := fun e => h (by
  have := congrArg (x ^^^ ·) e
  simpa [← UInt8.xor_assoc] using this)
/-- Bytes with their own sum behind them. -/
theorem ftake_all {m : Nat} (hm : m < 4294967296) (wa : List UInt8) : (wa.length < 4 ∧ ftake m (wa ++ be (csum wa) 4) = ([], 2)) ∨ (4 ≤ wa.length ∧ val (wa.take 4) = m ∧ ftake m (wa ++ be (csum wa) 4) = (wa.drop 4, 0)) ∨ (4 ≤ wa.length ∧ val (wa.take 4) ≠ m ∧ ftake m (wa ++ be (csum wa) 4) = ([], 5)) := by
  by_cases h : wa.length < 4
  · exact .inl ⟨h, ftake_short (by rw [List.length_append, be_length]; omega)⟩
  · have e := ftake_parts (m := m) (h := wa) (s := be (csum wa) 4) (by omega) (be_length _ _) rfl
    have l4 : (wa.take 4).length = 4 := by rw [List.length_take]; omega
    by_cases hv : val (wa.take 4) = m
    · have e4 : wa.take 4 = be m 4 := by
        have := be_val (wa.take 4)
        rw [l4, hv] at this
        exact this.symm
      rw [if_pos e4, if_pos rfl] at e
      exact .inr (.inl ⟨by omega, hv, e⟩)
    · rw [if_neg (fun e4 => hv (by rw [e4, val_be 4 m (by omega)]))] at e
      exact .inr (.inr ⟨by omega, hv, e⟩)
end Go.Th
