/-
  theseuslaw02.GroupOrder: the walk.
-/
import Derived.Test.YtgiefjbdkkdaiaaGroupBack
import Derived.Test.YtgiefjbdkkdaiaaGroupOrd
namespace Go.Proofs.Ytgiefjbdkkdaiaa
open Go.RowKit Go.Th
/-- How two numbers of these sizes stand. -/
def Stand (x y s t : Nat) : Prop := (s < t ∧ x < y) ∨ (t < s ∧ y < x) ∨ (s = t ∧ Op.bytesLess (gput x) (gput y) = decide (x < y))
theorem stand (x y : Nat) (hx : x < 268435456) (hy : y < 268435456) : Stand x y (gsize x) (gsize y) := by
  rcases Nat.lt_trichotomy (gsize x) (gsize y) with h | h | h
  · exact .inl ⟨h, gsize_lt h⟩
  · exact .inr (.inr ⟨h, gless x y hx hy h⟩)
  · exact .inr (.inl ⟨h, gsize_lt h⟩)
theorem gput_oo (n : Int) (w : World) (h : n < 0 ∨ 268435455 < n) : Calls Try.prog 33 #[.int .i64 n] w fun e w' => ∃ A c, e = .returned (.tuple #[.slice A 0 c, .int .i64 1]) ∧ Below w.heap.size w w' := by
  refine (gput_out n w h).mono ?_
  rintro e w' ⟨A, n, c, rfl, how, hb⟩
  have : n = 0 := by rw [← how.len]; rfl
  subst this
  exact ⟨A, c, rfl, hb⟩
theorem bounds7 (x : Nat) (hx : x < 268435456) : ((x : Int) < wrap64 (2 ^ (7 * gsize x))) ∧ (gsize x = 1 ∨ wrap64 (2 ^ (7 * (gsize x - 1))) ≤ (x : Int)) := by
  rcases sizes x with h1 | ⟨h1, h2⟩ | ⟨h1, h2⟩ | h1
  · rw [gsize_small h1]; simp [wrap64]; omega
  · have e : gsize x = 2 := by unfold gsize; rw [if_neg (by omega), if_pos (by omega)]
    rw [e]; simp [wrap64]; omega
  · have e : gsize x = 3 := by unfold gsize; rw [if_neg (by omega), if_neg (by omega), if_pos (by omega)]
    rw [e]; simp [wrap64]; omega
  · have e : gsize x = 4 := by unfold gsize; rw [if_neg (by omega), if_neg (by omega), if_neg (by omega)]
    rw [e]; simp [wrap64]; omega
set_option maxRecDepth 100000 in
set_option maxHeartbeats 8000000 in
theorem groupOrder_core (n : Int) (hn : 0 ≤ n ∧ n ≤ 4294967295) (l : Int) (hl : 0 ≤ l ∧ l ≤ 4294967295) (odd od2 : Int) (hodd : (odd < 0 ∧ od2 = odd) ∨ (0 ≤ odd ∧ 268435455 < odd ∧ od2 = odd) ∨ (0 ≤ odd ∧ odd ≤ 268435455 ∧ od2 = -1 - odd)) {w : World} :
    Calls Try.prog 12 #[.int .u32 n, .int .u32 l, .int .i64 odd] w fun e w' => e = .returned (.bool true) ∧ Below w.heap.size w w' := by
  have hod2 : od2 < 0 ∨ 268435455 < od2 := by omega
  obtain ⟨x, hx, hx2⟩ : ∃ x : Nat, bits .and .i64 n 268435455 = x ∧ x < 268435456 := ⟨_, mask28 n hn, by omega⟩
  obtain ⟨y, hy, hy2⟩ : ∃ y : Nat, bits .and .i64 l 268435455 = y ∧ y < 268435456 := ⟨_, mask28 l hl, by omega⟩
  have hst := stand x y hx2 hy2
  have hb7 := bounds7 x hx2
  have hgs := gsize_pos x
  obtain ⟨r, hs0⟩ : ∃ r, gsize x = r + 1 := ⟨gsize x - 1, by omega⟩
  obtain ⟨t, ht0⟩ : ∃ t, gsize y = t := ⟨_, rfl⟩
  rw [hs0] at hst hb7 hgs
  rw [ht0] at hst
  obtain ⟨hs1, hs2⟩ := hgs
  obtain ⟨h71, h72⟩ := hb7
  rw [Nat.add_sub_cancel] at h72
  have Hs := Lib.hid hs0
  have Ht := Lib.hid ht0
  have Hod2 := Lib.hid hod2
  clear hs0 ht0 hod2
  obtain ⟨PA, hPA⟩ : ∃ P, wrap64 (2 ^ (7 * (r + 1))) = P := ⟨_, rfl⟩
  obtain ⟨PB, hPB⟩ : ∃ P, wrap64 (2 ^ (7 * r)) = P := ⟨_, rfl⟩
  rw [hPA] at h71
  rw [hPB] at h72
  have hr4 : (r = 0) ∨ (1 ≤ r ∧ PB ≤ (x : Int)) := by omega
  clear h72
  rcases hodd with ⟨ho1, rfl⟩ | ⟨ho1, ho2, rfl⟩ | ⟨ho1, ho2, rfl⟩ <;> rcases hst with ⟨hst, hxy⟩ | ⟨hst, hxy⟩ | ⟨hst, hxy⟩ <;> rcases hr4 with rfl | ⟨hr1, hr2⟩
  all_goals try simp only [Nat.zero_add, Nat.mul_one, Nat.mul_zero] at *
  all_goals try subst hst
  all_goals try (have h128 : (x : Int) < 128 := by simp [wrap64] at hPA; omega)
  all_goals go_enter Try.func12, Try.ntmps12
  all_goals go_wp2_with (first
    | (go_at_call 32; refine (shown2 _).mono ?_; rintro e w1 ⟨rfl, hb1⟩)
    | (go_at_call 33; (with_reducible refine (gput_nat x hx2 _).mono ?_); rintro e w2 ⟨A2, c2, rfl, how2, hb2⟩; rw [Hs.out] at how2 ⊢)
    | (go_at_call 33; (with_reducible refine (gput_nat y hy2 _).mono ?_); rintro e w3 ⟨A3, c3, rfl, how3, hb3⟩; rw [Ht.out] at how3 ⊢)
    | (go_at_call 33; (with_reducible refine (gput_oo _ _ Hod2.out).mono ?_); rintro e w4 ⟨A4, c4, rfl, hb4⟩)
    | (go_at_call 38; refine (gsize_out _ _ Hod2.out).mono ?_; rintro e w5 ⟨rfl, rfl⟩)
    | ((with_reducible refine on_convert (.tmp 60) ?_); refine wl_strS rfl _ _ _ rfl el_u8 Try.underlying5 Try.underlying9 rfl ((how2.rd.step hb3).step hb4) ?_)
    | ((with_reducible refine on_convert (.tmp 62) ?_); refine wl_strS rfl _ _ _ rfl el_u8 Try.underlying5 Try.underlying9 rfl (how3.rd.step hb4) ?_))
  all_goals go_ret
  all_goals exact ⟨rfl, next (next (next hb1 hb2) hb3) hb4⟩
theorem groupOrder_walk (n : Int) (hn : 0 ≤ n ∧ n ≤ 4294967295) (l : Int) (hl : 0 ≤ l ∧ l ≤ 4294967295) (odd : Int) (_h : -9223372036854775808 ≤ odd ∧ odd ≤ 9223372036854775807) {w : World} :
    Calls Try.prog 12 #[.int .u32 n, .int .u32 l, .int .i64 odd] w fun e w' => e = .returned (.bool true) ∧ Below w.heap.size w w' := by
  refine groupOrder_core n hn l hl odd (if 0 ≤ odd ∧ odd ≤ 268435455 then -1 - odd else odd) ?_
  split <;> omega
end Go.Proofs.Ytgiefjbdkkdaiaa
