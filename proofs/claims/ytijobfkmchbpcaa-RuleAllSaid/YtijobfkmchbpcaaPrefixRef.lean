/-
  The walks of layer 6's reference, as far as rules need them.
-/
import Derived.Test.YtijobfkmchbpcaaPrefix
namespace Go.Proofs.Ytijobfkmchbpcaa
open Go.RowKit Go.Th
set_option linter.unusedVariables false
theorem rmask_any (n : Int) (w : World) : Calls Try.prog 40 #[.int .i64 n] w (RetV (.int .u32 (maskN n : Nat)) w) := by
  obtain ⟨k, hk, hk2⟩ : ∃ k : Nat, clamp n = k ∧ k ≤ 32 := ⟨_, rfl, clamp_le n⟩
  have hc : ∀ i : Nat, i < 32 → ((i : Int) < n ↔ i < k) := by
    intro i hi
    unfold clamp at hk
    split at hk
    · omega
    · split at hk <;> omega
  have Hc := Lib.hid hc
  have He := Lib.hid (maskTo_end n)
  rw [hk] at He
  clear hc hk
  go_enter Try.func40, Try.ntmps40
  go_wp2
  go_loop [3, 4] (fun m i => ∃ j : Nat, j ≤ 32 ∧ i = .int .i64 j ∧ m = .int .u32 (maskTo k j : Nat)) (fun _ i => 32 - (intOf i).toNat)
  case atStart => exact ⟨0, by omega, rfl, by simp [maskTo]⟩
  case round =>
    obtain ⟨j, hj, rfl, rfl⟩ := hrel
    by_cases hlt : j < 32
    · have hb := maskTo_lt k j (by omega)
      have h1 := Hc.out j hlt
      obtain ⟨m, hm⟩ : ∃ m, maskTo k j = m := ⟨_, rfl⟩
      rw [hm] at hb ⊢
      by_cases h2 : j < k
      · have h3 : (j : Int) < n := h1.2 h2
        have h4 := Lib.hid (maskTo_in k j h2)
        rw [hm] at h4
        clear h1 hm
        go_wp2
        go_round
        case rel => exact ⟨j + 1, by omega, by go_num, by rw [h4.out]; go_num⟩
        case measure => simp [intOf]; omega
      · have h3 : ¬ (j : Int) < n := fun e => h2 (h1.1 e)
        have h4 := Lib.hid (maskTo_out k j (by omega))
        rw [hm] at h4
        clear h1 hm
        go_wp2
        go_round
        case rel => exact ⟨j + 1, by omega, by go_num, by rw [h4.out]; go_num⟩
        case measure => simp [intOf]; omega
    · have e : j = 32 := by omega
      subst e
      rw [He.out]
      go_wp2
      go_ret
      exact ⟨rfl, rfl⟩
theorem rpcmp_any (a m b n : Int) (w : World) :
    Calls Try.prog 49 #[.int .u32 a, .int .i64 m, .int .u32 b, .int .i64 n] w (RetV (.int .i64 (pcmp a m b n)) w) := by
  have hc : (a < b ∧ pcmp a m b n = -1) ∨ (b < a ∧ pcmp a m b n = 1) ∨ (a = b ∧ m < n ∧ pcmp a m b n = -1) ∨ (a = b ∧ n < m ∧ pcmp a m b n = 1) ∨ (a = b ∧ m = n ∧ pcmp a m b n = 0) := by
    unfold pcmp icmp; split <;> split <;> (try split) <;> omega
  obtain ⟨v, hv⟩ : ∃ v, pcmp a m b n = v := ⟨_, rfl⟩
  rw [hv] at hc ⊢
  clear hv
  rcases hc with ⟨h, rfl⟩ | ⟨h, rfl⟩ | ⟨rfl, h, rfl⟩ | ⟨rfl, h, rfl⟩ | ⟨rfl, rfl, rfl⟩
  · have n1 : ((a : Int) == b) = false := by simp; omega
    go_enter Try.func49, Try.ntmps49
    go_wp2
    go_ret
    exact ⟨rfl, rfl⟩
  · have n1 : ((a : Int) == b) = false := by simp; omega
    go_enter Try.func49, Try.ntmps49
    go_wp2
    go_ret
    exact ⟨rfl, rfl⟩
  · have n1 : ((m : Int) == n) = false := by simp; omega
    go_enter Try.func49, Try.ntmps49
    go_wp2
    go_ret
    exact ⟨rfl, rfl⟩
  · have n1 : ((m : Int) == n) = false := by simp; omega
    go_enter Try.func49, Try.ntmps49
    go_wp2
    go_ret
    exact ⟨rfl, rfl⟩
  · go_enter Try.func49, Try.ntmps49
    go_wp2
    go_ret
    exact ⟨rfl, rfl⟩
end Go.Proofs.Ytijobfkmchbpcaa
