/-
  slices.Min of a row of ints.
-/
import Derived.Test.YtdmkiejaejlajaaNhBack
namespace Go.Proofs.Ytdmkiejaejlajaa
open Go.RowKit Go.Th
set_option linter.unusedVariables false
def minOf (x : Int) (l : List Int) : Int := l.foldl (fun m y => if y < m then y else m) x
theorem minOf_snoc (x : Int) (l : List Int) (y : Int) : minOf x (l ++ [y]) = if y < minOf x l then y else minOf x l := by
  unfold minOf
  rw [List.foldl_append]
  rfl
theorem minOf_le : ∀ (l : List Int) (x : Int), minOf x l ≤ x ∧ ∀ y ∈ l, minOf x l ≤ y
  | [], x => ⟨Int.le_refl _, by simp⟩
  | z :: l, x => by
    have h := minOf_le l (if z < x then z else x)
    have e : minOf x (z :: l) = minOf (if z < x then z else x) l := rfl
    rw [e]
    have hx : (if z < x then z else x) ≤ x ∧ (if z < x then z else x) ≤ z := by split <;> omega
    refine ⟨Int.le_trans h.1 hx.1, fun y hy => ?_⟩
    rcases List.mem_cons.1 hy with rfl | hy
    · exact Int.le_trans h.1 hx.2
    · exact h.2 y hy
theorem minOf_mem : ∀ (l : List Int) (x : Int), minOf x l = x ∨ minOf x l ∈ l
  | [], x => .inl rfl
  | z :: l, x => by
    have e : minOf x (z :: l) = minOf (if z < x then z else x) l := rfl
    rw [e]
    rcases minOf_mem l (if z < x then z else x) with h | h
    · rw [h]
      split
      · exact .inr (by simp)
      · exact .inl rfl
    · exact .inr (List.mem_cons_of_mem _ h)
def MinRel (x0 : Int) (xs : List Int) (n : Nat) (w : World) (m i : Value) (wr : World) : Prop :=
  ∃ k : Nat, 1 ≤ k ∧ k ≤ n ∧ i = .int .i64 k ∧ m = .int .i64 (minOf x0 ((xs.take k).drop 1)) ∧ wr = w
set_option maxRecDepth 100000 in
theorem min_any (A : Option Addr) (n c : Nat) (xs : List Int) (w : World) (hn : n ≤ 1000000) (B : Nat) (hr : RdS iv w B A n c xs) (x0 : Int) (h0 : xs[0]? = some x0) :
    Calls Try.prog 30 #[.slice A n c] w (RetB (.int .i64 (minOf x0 (xs.drop 1))) w) := by
  have hlen := hr.len
  have hn1 : 1 ≤ n := by have := (List.getElem?_eq_some_iff.1 h0).1; omega
  have hd : decide ((n : Int) < 1) = false := decide_eq_false (by omega)
  have H0 := Lib.hid h0
  clear h0
  go_enter Try.func30, Try.ntmps30
  go_wp2_with ((with_reducible refine on_index (.tmp 9) ?_); refine wl_at_i rfl _ _ _ rfl el_int rfl rfl (by omega) (by omega) hr ?_; intro p x hx hc; have hxx : x = x0 := (by have e := hx.out; rw [show (0 : Int).toNat = 0 from rfl, H0.out] at e; injection e with e; exact e.symm); subst hxx)
  go_loopw [3, 4] (fun m i wr => MinRel x xs n w m i wr) (fun _ i _ => n - (intOf i).toNat)
  case atStart => exact ⟨1, by omega, hn1, rfl, by rw [List.drop_eq_nil_of_le (by simp; omega)]; rfl, rfl⟩
  case round =>
    obtain ⟨k, hk1, hk, hi, hm, hww⟩ := hrel
    subst hi hm hww
    by_cases hlt : k < n
    · obtain ⟨y, hy⟩ : ∃ y, xs[k]? = some y := ⟨xs[k]'(by omega), List.getElem?_eq_getElem _⟩
      have hsn : (xs.take (k + 1)).drop 1 = (xs.take k).drop 1 ++ [y] := by
        rw [List.take_add_one, hy, List.drop_append_of_le_length (by rw [List.length_take]; omega)]
        rfl
      have hms := minOf_snoc x ((xs.take k).drop 1) y
      rw [← hsn] at hms
      obtain ⟨m0, hm0⟩ : ∃ m0, minOf x ((xs.take k).drop 1) = m0 := ⟨_, rfl⟩
      rw [hm0] at hms ⊢
      have Hms := Lib.hid hms
      have Hy := Lib.hid hy
      clear hms hsn hy hm0
      go_wp2_with ((with_reducible refine on_index (.tmp 19) ?_); refine wl_at_i rfl _ _ _ rfl el_int rfl rfl (by omega) (by omega) hr ?_; intro p2 x2 hx2 hc2; have hxx : y = x2 := (by have e := hx2.out; rw [Int.toNat_natCast, Hy.out] at e; injection e); subst hxx)
      go_roundw
      case rel => exact ⟨k + 1, by omega, by omega, by go_num, by rw [Hms.out], rfl⟩
      case measure => simp [intOf]; omega
    · obtain rfl : k = n := by omega
      rw [List.take_of_length_le (by omega)]
      go_wp2
      go_ret
      exact ⟨rfl, Below.refl _ _⟩
end Go.Proofs.Ytdmkiejaejlajaa
