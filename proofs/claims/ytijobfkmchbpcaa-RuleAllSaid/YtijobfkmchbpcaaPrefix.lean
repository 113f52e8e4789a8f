/-
  The walks of layer 6 (prefix) and of its reference, as far as rules need them.
-/
import Derived.Test.YtijobfkmchbpcaaRule
import Derived.Test.YtijobfkmchbpcaaTypes
namespace Go.Proofs.Ytijobfkmchbpcaa
open Go.RowKit Go.Th
set_option linter.unusedVariables false
/-- A value comes back; the world is as it was. -/
def RetV (v : Value) (w : World) (e : Ending) (w' : World) : Prop := e = .returned v ∧ w = w'
theorem Calls.retv {f : FuncId} {args : Array Value} {w : World} {u v : Value} (h : Calls Try.prog f args w (RetV u w)) (e : u = v) : Calls Try.prog f args w (RetV v w) := e ▸ h
theorem mask_any (n : Int) (w : World) (h : -9223372036854775808 ≤ n ∧ n ≤ 9223372036854775807) : Calls Try.prog 41 #[.int .i64 n] w (RetV (.int .u32 (maskN n : Nat)) w) := by
  obtain ⟨h1, h2⟩ := h
  obtain ⟨k, hk, hk2⟩ : ∃ k : Nat, clamp n = k ∧ k ≤ 32 := ⟨_, rfl, clamp_le n⟩
  have hs : sh n = 32 - k := by unfold sh; rw [hk]
  have hm := shl_mask (32 - k) (by omega)
  have he : (maskN n : Nat) = 4294967296 - 2 ^ (32 - k) := by unfold maskN; rw [hs]
  have Hm := Lib.hid hm
  have He := Lib.hid he
  have hc : (n < 0 ∧ k = 0) ∨ (32 < n ∧ k = 32) ∨ (0 ≤ n ∧ n ≤ 32 ∧ n = k) := by
    unfold clamp at hk
    split at hk
    · omega
    · split at hk <;> omega
  clear hm he hs hk
  rcases hc with ⟨h3, rfl⟩ | ⟨h3, rfl⟩ | ⟨h3, h4, rfl⟩
  all_goals go_enter Try.func41, Try.ntmps41
  all_goals go_wp2
  all_goals go_ret
  all_goals refine ⟨?_, rfl⟩
  all_goals rw [He.out, ← Hm.out]
  all_goals rfl
theorem holds_any (a n x : Int) (w : World) (ha : 0 ≤ a ∧ a ≤ 4294967295) (h : -9223372036854775808 ≤ n ∧ n ≤ 9223372036854775807) (hx : 0 ≤ x ∧ x ≤ 4294967295) :
    Calls Try.prog 19 #[.int .u32 a, .int .i64 n, .int .u32 x] w (RetV (.bool (holds a n x)) w) := by
  obtain ⟨a, rfl⟩ := Int.eq_ofNat_of_zero_le ha.1
  obtain ⟨x, rfl⟩ := Int.eq_ofNat_of_zero_le hx.1
  have h1 := xor_u32 a x (by omega) (by omega)
  have hz : a ^^^ x < 4294967296 := Nat.xor_lt_two_pow (n := 32) (by omega) (by omega)
  have h2 := and_u32 (a ^^^ x) (maskN n) hz (maskN_lt n)
  have h3 := xor_high a x n (by omega) (by omega)
  have hb : holds a n x = decide ((a ^^^ x) &&& maskN n = 0) := by
    unfold holds head
    rw [Int.toNat_natCast, Int.toNat_natCast, decide_eq_decide, h3]
  clear h3 ha hx
  obtain ⟨b, hb'⟩ : ∃ b, holds a n x = b := ⟨_, rfl⟩
  rw [hb']
  rw [hb'] at hb
  generalize a ^^^ x = z at *
  have hm := mask_any n w h
  generalize maskN n = m at *
  generalize z &&& m = y at *
  have hyb : (b = true ∧ ((y : Int) == 0) = true) ∨ (b = false ∧ ((y : Int) == 0) = false) := by
    by_cases hy : y = 0
    · exact .inl ⟨by rw [hb]; simpa using hy, by simpa using hy⟩
    · exact .inr ⟨by rw [hb]; simpa using hy, by simpa using hy⟩
  have Hm := Lib.hid hm
  clear hb hb' hm
  rcases hyb with ⟨rfl, hy⟩ | ⟨rfl, hy⟩
  all_goals go_enter Try.func19, Try.ntmps19
  all_goals go_wp2_with (go_at_call 41; refine (Hm.out).mono ?_; rintro e w' ⟨rfl, rfl⟩)
  all_goals go_ret
  all_goals exact ⟨rfl, rfl⟩
theorem pmay_any (a n : Int) (w : World) (ha : 0 ≤ a ∧ a ≤ 4294967295) (h : -9223372036854775808 ≤ n ∧ n ≤ 9223372036854775807) :
    Calls Try.prog 28 #[.int .u32 a, .int .i64 n] w (RetV (.int .i64 (pmay a n)) w) := by
  obtain ⟨a, rfl⟩ := Int.eq_ofNat_of_zero_le ha.1
  by_cases h1 : n < 0
  · have e : pmay a n = 1 := by unfold pmay; rw [if_pos (by omega)]
    rw [e]
    clear e
    go_enter Try.func28, Try.ntmps28
    go_wp2
    go_ret
    exact ⟨rfl, rfl⟩
  by_cases h2 : 32 < n
  · have e : pmay a n = 1 := by unfold pmay; rw [if_pos (by omega)]
    rw [e]
    clear e
    go_enter Try.func28, Try.ntmps28
    go_wp2
    go_ret
    exact ⟨rfl, rfl⟩
  have h3 := andNot_u32 a (sh n) (by omega) (sh_le n)
  have he : pmay a n = if a % 2 ^ sh n = 0 then 0 else 8 := by unfold pmay; rw [if_neg (by omega), Int.toNat_natCast]
  have hm := mask_any n w h
  have hme : maskN n = 4294967296 - 2 ^ sh n := rfl
  rw [← hme] at h3
  clear hme
  obtain ⟨v, hv⟩ : ∃ v, pmay a n = v := ⟨_, rfl⟩
  rw [hv]
  rw [hv] at he
  generalize maskN n = m at *
  generalize a % 2 ^ sh n = y at *
  have hyb : (v = 0 ∧ ((y : Int) != 0) = false) ∨ (v = 8 ∧ ((y : Int) != 0) = true) := by
    by_cases hy : y = 0
    · exact .inl ⟨by rw [he, if_pos hy], by subst hy; rfl⟩
    · exact .inr ⟨by rw [he, if_neg hy], by simpa using hy⟩
  have Hm := Lib.hid hm
  clear he hv hm
  have h1' : 0 ≤ n := by omega
  have h2' : n ≤ 32 := by omega
  rcases hyb with ⟨rfl, hy⟩ | ⟨rfl, hy⟩
  all_goals go_enter Try.func28, Try.ntmps28
  all_goals go_wp2_with (go_at_call 41; refine (Hm.out).mono ?_; rintro e w' ⟨rfl, rfl⟩)
  all_goals go_ret
  all_goals exact ⟨rfl, rfl⟩
/-- cmp.Compare. -/
theorem icmp_u32 (a b : Int) (w : World) (ha : 0 ≤ a ∧ a ≤ 4294967295) (hb : 0 ≤ b ∧ b ≤ 4294967295) : Calls Try.prog 50 #[.int .u32 a, .int .u32 b] w (RetV (.int .i64 (icmp a b)) w) := by
  have hc : (a < b ∧ icmp a b = -1) ∨ (b < a ∧ icmp a b = 1) ∨ (a = b ∧ icmp a b = 0) := by
    unfold icmp; split <;> (try split) <;> omega
  obtain ⟨v, hv⟩ : ∃ v, icmp a b = v := ⟨_, rfl⟩
  rw [hv] at hc ⊢
  clear hv
  have n1 : ((a : Int) != a) = false := by simp
  have n2 : ((b : Int) != b) = false := by simp
  rcases hc with ⟨h, rfl⟩ | ⟨h, rfl⟩ | ⟨rfl, rfl⟩
  all_goals go_enter Try.func50, Try.ntmps50
  all_goals go_wp2
  all_goals go_ret
  all_goals exact ⟨rfl, rfl⟩
theorem icmp_int (a b : Int) (w : World) : Calls Try.prog 51 #[.int .i64 a, .int .i64 b] w (RetV (.int .i64 (icmp a b)) w) := by
  have hc : (a < b ∧ icmp a b = -1) ∨ (b < a ∧ icmp a b = 1) ∨ (a = b ∧ icmp a b = 0) := by
    unfold icmp; split <;> (try split) <;> omega
  obtain ⟨v, hv⟩ : ∃ v, icmp a b = v := ⟨_, rfl⟩
  rw [hv] at hc ⊢
  clear hv
  have n1 : ((a : Int) != a) = false := by simp
  have n2 : ((b : Int) != b) = false := by simp
  rcases hc with ⟨h, rfl⟩ | ⟨h, rfl⟩ | ⟨rfl, rfl⟩
  all_goals go_enter Try.func51, Try.ntmps51
  all_goals go_wp2
  all_goals go_ret
  all_goals exact ⟨rfl, rfl⟩
theorem pcmp_any (a m b n : Int) (w : World) (ha : 0 ≤ a ∧ a ≤ 4294967295) (hb : 0 ≤ b ∧ b ≤ 4294967295) :
    Calls Try.prog 39 #[.int .u32 a, .int .i64 m, .int .u32 b, .int .i64 n] w (RetV (.int .i64 (pcmp a m b n)) w) := by
  by_cases h : a = b
  · subst h
    have e : pcmp a m a n = icmp m n := by unfold pcmp; rw [if_pos rfl]
    rw [e]
    clear e
    have n1 : ((a : Int) != a) = false := by simp
    go_enter Try.func39, Try.ntmps39
    go_wp2_with (go_at_call 51; refine (icmp_int _ _ _).mono ?_; rintro e w' ⟨rfl, rfl⟩)
    go_ret
    exact ⟨rfl, rfl⟩
  · have e : pcmp a m b n = icmp a b := by unfold pcmp; rw [if_neg h]
    rw [e]
    clear e
    have n1 : ((a : Int) != b) = true := by simpa using h
    go_enter Try.func39, Try.ntmps39
    go_wp2_with (go_at_call 50; refine (icmp_u32 _ _ _ ha hb).mono ?_; rintro e w' ⟨rfl, rfl⟩)
    go_ret
    exact ⟨rfl, rfl⟩
end Go.Proofs.Ytijobfkmchbpcaa
