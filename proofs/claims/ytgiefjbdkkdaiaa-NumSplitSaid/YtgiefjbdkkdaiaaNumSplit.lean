/-
  theseuslaw01.NumSplit: the walk.
-/
import Derived.Test.YtgiefjbdkkdaiaaNumLaw
namespace Go.Proofs.Ytgiefjbdkkdaiaa
open Go.RowKit Go.Th

theorem numSplit_walk (n : Int) (hn : 0 ≤ n ∧ n ≤ 4294967295) (at' : Int) (hat : 0 ≤ at' ∧ at' ≤ 255) {w : World} :
    Calls Try.prog 5 #[.int .u32 n, .int .u8 at'] w fun e w' => e = .returned (.bool true) ∧ Below w.heap.size w w' := by
  obtain ⟨hn0, hn1⟩ := hn
  obtain ⟨ha0, ha1⟩ := hat
  obtain ⟨k, hk, h1, h2⟩ : ∃ k : Nat, 1 + at' % 3 = (k : Int) ∧ 1 ≤ k ∧ k ≤ 3 := ⟨(1 + at' % 3).toNat, by omega, by omega, by omega⟩
  obtain ⟨x, rfl⟩ := Int.eq_ofNat_of_zero_le hn0
  have hx4 : x < 256 ^ 4 := by omega
  have hl : ∀ k, k ≤ 4 → (val ((be x 4).take k) : Nat) * 256 ^ (4 - k) + val ((be x 4).drop k) = x ∧ val ((be x 4).take k) < 256 ^ k ∧ val ((be x 4).drop k) < 256 ^ (4 - k) := by
    intro k hk
    have h1 := val_append ((be x 4).take k) ((be x 4).drop k)
    have h2 := val_lt ((be x 4).take k)
    have h3 := val_lt ((be x 4).drop k)
    rw [List.length_drop, be_length] at h1 h3
    rw [List.length_take, be_length, Nat.min_eq_left hk] at h2
    rw [List.take_append_drop, val_be 4 x hx4] at h1
    exact ⟨h1.symm, h2, h3⟩
  have Hx4 := Lib.hid hx4
  have hk3 : k = 1 ∨ k = 2 ∨ k = 3 := by omega
  have hlk := hl k (by omega)
  have ht : (be x 4).drop k = ((be x 4).drop k).take (4 - k) := by rw [List.take_of_length_le (by rw [List.length_drop, be_length]; omega)]
  rw [ht] at hlk
  clear hl ht hx4
  generalize hp : val ((be x 4).take k) = p at hlk
  generalize hq : val (((be x 4).drop k).take (4 - k)) = q at hlk
  obtain ⟨hl1, hl2, hl3⟩ := hlk
  have Hp := Lib.hid hp
  have Hq := Lib.hid hq
  clear hp hq
  go_enter Try.func5, Try.ntmps5
  go_wp2_with (first
    | (go_at_call 23; refine (shown1 _).mono ?_; rintro e w1 ⟨rfl, hb1⟩)
    | (go_at_call 24; refine (put_nat x 4 _ (by omega) (by omega) Hx4.out).mono ?_; rintro e w4 ⟨A4, c4, rfl, how4, hb4⟩; have HB4 := hb1.trans (hb4.mono hb1.size))
    | (go_at_call 25; (with_reducible refine (take_int A4 4 c4 _ _ k rfl h1 (by omega) (by omega) (by omega) _ _ how4.rd).mono ?_); rintro e w6 ⟨rfl, rfl⟩; rw [Hp.out])
    | (go_at_call 25; (with_reducible refine (take_int A5 _ _ _ _ (4 - k) (by omega) (by omega) (by omega) (by omega) (by omega) _ _ hr5).mono ?_); rintro e w6 ⟨rfl, rfl⟩; rw [Hq.out])
    | (refine wl_cut_l rfl _ _ el_u8 rfl how4.rd _ rfl rfl k (by omega) ?_; intro A5 hr5))
  have hf : (wrap64 (wrap64 ((p : Int) * 2 ^ (8 * (4 - k))) + (q : Int)) == (x : Int)) = true := by
    rw [beq_iff_eq]
    rcases hk3 with rfl | rfl | rfl <;> simp at hl1 hl2 hl3 ⊢ <;> unfold wrap64 <;> omega
  go_ret
  exact ⟨congrArg (fun b => Ending.returned (.bool b)) hf, HB4⟩
end Go.Proofs.Ytgiefjbdkkdaiaa
