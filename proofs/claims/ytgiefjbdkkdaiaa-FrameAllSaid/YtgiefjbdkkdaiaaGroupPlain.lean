/-
  Numbers of as few bytes as may be: plain lists of bytes, no program in sight.
-/
import Derived.Test.YtgiefjbdkkdaiaaBase
namespace Go.Th

/-- How many bytes. -/
def gsize (n : Nat) : Nat := if n < 128 then 1 else if n < 16384 then 2 else if n < 2097152 then 3 else 4
/-- The same, nought having none. -/
def gmore (n : Nat) : Nat := if n = 0 then 0 else gsize n
/-- s bytes that another one follows, the highest first. -/
def gd : Nat → Nat → List UInt8
  | _, 0 => []
  | n, s + 1 => gd (n / 128) s ++ [UInt8.ofNat (n % 128 + 128)]
/-- A number's bytes. -/
def gput (n : Nat) : List UInt8 := gd (n / 128) (gsize n - 1) ++ [UInt8.ofNat (n % 128)]
/-- What bytes begin with: so many may yet come. -/
def gt : Nat → Nat → Nat → List UInt8 → Nat × Nat × Int
  | 0, _, _, _ => (0, 0, 3)
  | _ + 1, _, _, [] => (0, 0, 2)
  | f + 1, v, c, b :: bs => if b.toNat < 128 then (v * 128 + b.toNat, c + 1, 0) else gt f (v * 128 + (b.toNat - 128)) (c + 1) bs
def gtake (bs : List UInt8) : Nat × Nat × Int := if bs[0]? = some 128 then (0, 0, 3) else gt 4 0 0 bs

theorem gsize_pos (n : Nat) : 1 ≤ gsize n ∧ gsize n ≤ 4 := by unfold gsize; split <;> (try split) <;> (try split) <;> omega
theorem gsize_small {n : Nat} (h : n < 128) : gsize n = 1 := by unfold gsize; rw [if_pos h]
theorem gsize_step {n : Nat} (h : 128 ≤ n) (h2 : n < 268435456) : gsize (n / 128) + 1 = gsize n := by
  unfold gsize
  repeat' split
  all_goals omega
theorem gmore_div {n : Nat} (h2 : n < 268435456) : gmore (n / 128) = gsize n - 1 := by
  unfold gmore gsize
  repeat' split
  all_goals omega
theorem gmore_step {n : Nat} (h : 1 ≤ n) (h2 : n < 268435456) : gmore n = gmore (n / 128) + 1 := by
  rw [gmore_div h2]
  unfold gmore
  rw [if_neg (by omega)]
  have := gsize_pos n
  omega
theorem gd_length : ∀ (s n : Nat), (gd n s).length = s
  | 0, _ => rfl
  | s + 1, n => by rw [gd, List.length_append, gd_length s]; rfl
theorem gput_length (n : Nat) : (gput n).length = gsize n := by
  rw [gput, List.length_append, gd_length]
  have := (gsize_pos n).1
  show _ + 1 = _
  omega
theorem fill_set (m : Nat) (z v : UInt8) (l : List UInt8) : (List.replicate (m + 1) z ++ l).set m v = List.replicate m z ++ v :: l := by
  rw [List.replicate_succ', List.append_assoc, List.set_append_right _ _ (by simp)]
  simp
theorem last_set (l : List UInt8) (z v : UInt8) (r : Nat) (h : l.length = r) : (l ++ [z]).set r v = l ++ [v] := by
  subst h
  rw [List.set_append_right _ _ (by simp)]
  simp
theorem gt_nil (f v c : Nat) (h : 1 ≤ f) : gt f v c [] = (0, 0, 2) := by
  obtain ⟨k, rfl⟩ : ∃ k, f = k + 1 := ⟨f - 1, by omega⟩
  rfl
theorem gt_low {f v c : Nat} {bs : List UInt8} {k : Nat} {x : UInt8} (hf : 1 ≤ f) (h : bs[k]? = some x) (hx : x.toNat < 128) : gt f v c (bs.drop k) = (v * 128 + x.toNat, c + 1, 0) := by
  obtain ⟨j, rfl⟩ : ∃ j, f = j + 1 := ⟨f - 1, by omega⟩
  obtain ⟨hl, rfl⟩ := List.getElem?_eq_some_iff.1 h
  rw [List.drop_eq_getElem_cons hl, gt, if_pos hx]
theorem gt_high {f v c : Nat} {bs : List UInt8} {k : Nat} {x : UInt8} (h : bs[k]? = some x) (hx : 128 ≤ x.toNat) : gt (f + 1) v c (bs.drop k) = gt f (v * 128 + (x.toNat - 128)) (c + 1) (bs.drop (k + 1)) := by
  obtain ⟨hl, rfl⟩ := List.getElem?_eq_some_iff.1 h
  rw [List.drop_eq_getElem_cons hl, gt, if_neg (by omega)]
end Go.Th
