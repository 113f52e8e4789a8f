/-
  The walks of the references of layers 5 to 7 that tell whether a prefix, or a rule, may be, and what a prefix holds: bit by bit.
-/
import Derived.Test.YtijobfkmchbpcaaRuleWalk
namespace Go.Th
theorem bitN_lt (a i : Nat) : bitN a i < 2 := Nat.mod_lt _ (by omega)
theorem and_one (x : Nat) (h : x < 4294967296) : bits .and .u32 (x : Int) 1 = ((x % 2 : Nat) : Int) := by
  have := and_u32 x 1 h (by omega)
  rw [show (x &&& 1) = x % 2 from Nat.and_one_is_mod x] at this
  exact this
/-- The bits behind the k-th one, of what is behind n. -/
theorem behind_bit (a n k : Nat) (hk : k < 32) (hn : n ≤ k) (h : a % 2 ^ (32 - n) < 2 ^ (32 - k)) : a % 2 ^ (32 - n) < 2 ^ (32 - (k + 1)) ↔ bitN a k = 0 := by
  rw [tail_bit _ k hk h, bit_mod a (32 - n) k (by omega) hk (by omega)]
end Go.Th
namespace Go.Proofs.Ytijobfkmchbpcaa
open Go.RowKit Go.Th
set_option linter.unusedVariables false
theorem bit_any (a i : Nat) (w : World) (ha : a < 4294967296) (hi : i < 32) :
    Calls Try.prog 60 #[.int .u32 (a : Nat), .int .i64 (i : Nat)] w (RetV (.int .i64 (bitN a i : Nat)) w) := by
  have h0 := bitN_lt a i
  have h1 := and_one (a / 2 ^ (31 - i)) (Nat.lt_of_le_of_lt (Nat.div_le_self _ _) ha)
  have he : (a : Int) / 2 ^ (31 - i) = ((a / 2 ^ (31 - i) : Nat) : Int) := by
    rw [Int.natCast_ediv, Int.natCast_pow]; rfl
  obtain ⟨b, hb⟩ : ∃ b, bitN a i = b := ⟨_, rfl⟩
  have h2 : bits .and .u32 ((a : Int) / 2 ^ (31 - i)) 1 = (b : Int) := by rw [he, h1, ← hb]; rfl
  rw [hb] at h0 ⊢
  have H2 := Lib.hid h2
  clear hb h1 he h2
  go_enter Try.func60, Try.ntmps60
  go_wp2
  go_ret
  refine ⟨?_, rfl⟩
  rw [H2.out, show wrap64 (b : Int) = b from by unfold wrap64; omega]
  rfl
theorem rpmay_any (a n : Int) (w : World) (ha : 0 ≤ a ∧ a ≤ 4294967295) :
    Calls Try.prog 48 #[.int .u32 a, .int .i64 n] w (RetV (.int .i64 (pmay a n)) w) := by
  obtain ⟨a, rfl⟩ := Int.eq_ofNat_of_zero_le ha.1
  have ha' : a < 4294967296 := by omega
  by_cases h1 : n < 0
  · have e : pmay a n = 1 := by unfold pmay; rw [if_pos (by omega)]
    rw [e]
    clear e
    go_enter Try.func48, Try.ntmps48
    go_wp2
    go_ret
    exact ⟨rfl, rfl⟩
  by_cases h2 : 32 < n
  · have e : pmay a n = 1 := by unfold pmay; rw [if_pos (by omega)]
    rw [e]
    clear e
    go_enter Try.func48, Try.ntmps48
    go_wp2
    go_ret
    exact ⟨rfl, rfl⟩
  obtain ⟨n, rfl⟩ := Int.eq_ofNat_of_zero_le (by omega : 0 ≤ n)
  have hn : n ≤ 32 := by omega
  have he : pmay a n = if a % 2 ^ (32 - n) = 0 then 0 else 8 := by
    unfold pmay
    rw [if_neg (by omega), Int.toNat_natCast, sh_in (by omega) (by omega), Int.toNat_natCast]
  obtain ⟨v, hv⟩ : ∃ v, pmay a n = v := ⟨_, rfl⟩
  rw [hv] at he ⊢
  have Hv := Lib.hid he
  have hb : ∀ k : Nat, k < 32 → n ≤ k → a % 2 ^ (32 - n) < 2 ^ (32 - k) → (a % 2 ^ (32 - n) < 2 ^ (32 - (k + 1)) ↔ bitN a k = 0) := fun k => behind_bit a n k
  have hy0 : a % 2 ^ (32 - n) < 2 ^ (32 - n) := Nat.mod_lt _ (Nat.two_pow_pos _)
  generalize a % 2 ^ (32 - n) = y at *
  have Hb := Lib.hid hb
  have Hy0 := Lib.hid hy0
  clear hv he hb hy0 ha
  go_enter Try.func48, Try.ntmps48
  go_wp2
  go_loop [5] (fun i => ∃ k : Nat, n ≤ k ∧ k ≤ 32 ∧ i = .int .i64 k ∧ Hid (y < 2 ^ (32 - k))) (fun i => 32 - (intOf i).toNat)
  case atStart => exact ⟨n, by omega, hn, rfl, Hy0⟩
  case round =>
    obtain ⟨k, hnk, hk, rfl, Hy⟩ := hrel
    by_cases hlt : k < 32
    · have h3 := Hb.out k hlt hnk Hy.out
      have h4 := bitN_lt a k
      obtain ⟨b, hbb⟩ : ∃ b, bitN a k = b := ⟨_, rfl⟩
      have hc := bit_any a k w ha' hlt
      rw [hbb] at h3 h4 hc
      have Hc := Lib.hid hc
      clear hc hbb
      rcases (show b = 0 ∨ b = 1 by omega) with rfl | rfl
      · have Hy2 := Lib.hid (h3.2 rfl)
        clear h3
        go_wp2_with (go_at_call 60; refine (Hc.out).mono ?_; rintro e w' ⟨rfl, rfl⟩)
        go_round
        case rel => exact ⟨k + 1, by omega, by omega, by go_num, Hy2⟩
        case measure => simp [intOf]; omega
      · have hy1 : y ≠ 0 := fun e => by
          have := h3.1 (by rw [e]; exact Nat.two_pow_pos _)
          omega
        have Hf := Lib.hid (Hv.out.trans (if_neg hy1))
        clear h3 hy1
        go_wp2_with (go_at_call 60; refine (Hc.out).mono ?_; rintro e w' ⟨rfl, rfl⟩)
        go_ret
        exact ⟨by rw [Hf.out]; try rfl, rfl⟩
    · have hk32 : k = 32 := by omega
      subst hk32
      have hy1 : y = 0 := by have := Hy.out; omega
      have Hf := Lib.hid (Hv.out.trans (if_pos hy1))
      clear hy1
      go_wp2
      go_ret
      exact ⟨by rw [Hf.out]; try rfl, rfl⟩
theorem rholds_any (a n x : Int) (w : World) (ha : 0 ≤ a ∧ a ≤ 4294967295) (hx : 0 ≤ x ∧ x ≤ 4294967295) :
    Calls Try.prog 45 #[.int .u32 a, .int .i64 n, .int .u32 x] w (RetV (.bool (holds a n x)) w) := by
  obtain ⟨a, rfl⟩ := Int.eq_ofNat_of_zero_le ha.1
  obtain ⟨x, rfl⟩ := Int.eq_ofNat_of_zero_le hx.1
  have ha' : a < 4294967296 := by omega
  have hx' : x < 4294967296 := by omega
  obtain ⟨m, hm, hm2⟩ : ∃ m : Nat, clamp n = m ∧ m ≤ 32 := ⟨_, rfl, clamp_le n⟩
  have hin : ∀ i : Nat, i < 32 → ((i : Int) < n ↔ i < m) := by
    intro i hi
    unfold clamp at hm
    split at hm
    · omega
    · split at hm <;> omega
  have he : holds a n x = decide (a / 2 ^ (32 - m) = x / 2 ^ (32 - m)) := by unfold holds head sh; rw [hm, Int.toNat_natCast, Int.toNat_natCast]
  obtain ⟨v, hv⟩ : ∃ v, holds a n x = v := ⟨_, rfl⟩
  rw [hv] at he ⊢
  have Hv := Lib.hid he
  have Hin := Lib.hid hin
  clear hv he hin hm ha hx
  go_enter Try.func45, Try.ntmps45
  go_wp2
  go_loop [7] (fun i => ∃ k : Nat, k ≤ m ∧ i = .int .i64 k ∧ Hid (a / 2 ^ (32 - k) = x / 2 ^ (32 - k))) (fun i => 32 - (intOf i).toNat)
  case atStart => exact ⟨0, by omega, rfl, Lib.hid (by rw [Nat.div_eq_of_lt (by omega), Nat.div_eq_of_lt (by omega)])⟩
  case round =>
    obtain ⟨k, hk, rfl, Hy⟩ := hrel
    by_cases hlt : k < m
    · have hk32 : k < 32 := by omega
      have hkn := (Hin.out k hk32).2 hlt
      have h3 := head_bit a x k hk32 Hy.out
      have h4 := bitN_lt a k
      have h5 := bitN_lt x k
      have hmo := fun h => head_more a x (32 - m) (32 - (k + 1)) (by omega) h
      obtain ⟨b, hbb⟩ : ∃ b, bitN a k = b := ⟨_, rfl⟩
      obtain ⟨c, hcc⟩ : ∃ c, bitN x k = c := ⟨_, rfl⟩
      have hc := fun W => bit_any a k W ha' hk32
      have hd := fun W => bit_any x k W hx' hk32
      rw [hbb] at h3 h4 hc
      rw [hcc] at h3 h5 hd
      have Hc := Lib.hid hc
      have Hd := Lib.hid hd
      clear hc hd hbb hcc
      by_cases hbc : b = c
      · have Hy2 := Lib.hid (h3.2 hbc)
        subst hbc
        clear h3 hmo
        have hq : ((b : Int) != (b : Int)) = false := by simp
        go_wp2_with fail
        refine (Hc.out _).mono ?_
        rintro e w1 ⟨rfl, rfl⟩
        go_wp2_with fail
        refine (Hd.out _).mono ?_
        rintro e w1 ⟨rfl, rfl⟩
        go_wp2
        go_round
        case rel => exact ⟨k + 1, by omega, by go_num, Hy2⟩
        case measure => simp [intOf]; omega
      · have hq : ((b : Int) != (c : Int)) = true := by simp; omega
        have Hf := Lib.hid (Hv.out.trans (decide_eq_false fun h => hbc (h3.1 (hmo h))))
        clear h3 hmo hbc
        go_wp2_with fail
        refine (Hc.out _).mono ?_
        rintro e w1 ⟨rfl, rfl⟩
        go_wp2_with fail
        refine (Hd.out _).mono ?_
        rintro e w1 ⟨rfl, rfl⟩
        go_wp2
        go_ret
        exact ⟨by rw [Hf.out]; try rfl, rfl⟩
    · have hkm : k = m := by omega
      subst hkm
      have Hf := Lib.hid (Hv.out.trans (decide_eq_true Hy.out))
      have hways : (k < 32 ∧ ¬ (k : Int) < n) ∨ k = 32 := by
        by_cases h : k < 32
        · exact .inl ⟨h, fun hh => absurd ((Hin.out k h).1 hh) (by omega)⟩
        · exact .inr (by omega)
      clear hlt
      rcases hways with ⟨hk32, hkn⟩ | rfl
      · go_wp2
        go_ret
        exact ⟨by rw [Hf.out]; try rfl, rfl⟩
      · go_wp2
        go_ret
        exact ⟨by rw [Hf.out]; try rfl, rfl⟩
set_option maxHeartbeats 1000000 in
theorem rmay_any (r : Ru) (nodes : Int) (w : World) (h : r.Ok) : Calls Try.prog 37 #[r.v, .int .i64 nodes] w (RetB (.int .i64 (r.may nodes)) w) := by
  have Ha := Lib.hid h.a
  have Hn := Lib.hid h.n
  have hc : (pmay r.a r.n != 0) = true ∧ r.may nodes = pmay r.a r.n ∨
      (pmay r.a r.n != 0) = false ∧ (r.act == 1) = true ∧ (r.act != 1) = false ∧ r.next < 0 ∧ r.may nodes = 10 ∨
      (pmay r.a r.n != 0) = false ∧ (r.act == 1) = true ∧ (r.act != 1) = false ∧ 0 ≤ r.next ∧ nodes ≤ r.next ∧ r.may nodes = 10 ∨
      (pmay r.a r.n != 0) = false ∧ (r.act == 1) = true ∧ (r.act != 1) = false ∧ 0 ≤ r.next ∧ r.next < nodes ∧ r.may nodes = 0 ∨
      (pmay r.a r.n != 0) = false ∧ (r.act == 1) = false ∧ (r.act != 1) = true ∧ (r.act != 2) = false ∧ (r.next != 0) = true ∧ r.may nodes = 10 ∨
      (pmay r.a r.n != 0) = false ∧ (r.act == 1) = false ∧ (r.act != 1) = true ∧ (r.act != 2) = false ∧ (r.next != 0) = false ∧ r.may nodes = 0 ∨
      (pmay r.a r.n != 0) = false ∧ (r.act == 1) = false ∧ (r.act != 1) = true ∧ (r.act != 2) = true ∧ (r.act != 3) = false ∧ (r.next != 0) = true ∧ r.may nodes = 10 ∨
      (pmay r.a r.n != 0) = false ∧ (r.act == 1) = false ∧ (r.act != 1) = true ∧ (r.act != 2) = true ∧ (r.act != 3) = false ∧ (r.next != 0) = false ∧ r.may nodes = 0 ∨
      (pmay r.a r.n != 0) = false ∧ (r.act == 1) = false ∧ (r.act != 1) = true ∧ (r.act != 2) = true ∧ (r.act != 3) = true ∧ r.may nodes = 9 := by
    unfold Ru.may
    by_cases h0 : pmay r.a r.n = 0
    · by_cases h1 : r.act = 1
      · by_cases h2 : r.next < 0
        · simp [h0, h1, h2]
        · by_cases h3 : nodes ≤ r.next
          · simp [h0, h1, h2, h3]; omega
          · simp [h0, h1, h2, h3]; omega
      · by_cases h2 : r.act = 2
        · by_cases h3 : r.next = 0 <;> simp [h0, h2, h3]
        · by_cases h3 : r.act = 3
          · by_cases h4 : r.next = 0 <;> simp [h0, h3, h4]
          · simp [h0, h1, h2, h3]
    · simp [h0]
  obtain ⟨a, n, act, next⟩ := r
  show Calls Try.prog 37 #[.agg #[.int .u32 a, .int .i64 n, .int .i64 act, .int .i64 next], .int .i64 nodes] w _
  simp only at Ha Hn hc
  generalize Ru.may ⟨a, n, act, next⟩ nodes = v at *
  have hp := fun W => rpmay_any a n W Ha.out
  generalize pmay a n = e at *
  have Hp := Lib.hid hp
  clear h hp
  rcases hc with ⟨h1, rfl⟩ | ⟨h1, h2, h3, h4, rfl⟩ | ⟨h1, h2, h3, h4, h5, rfl⟩ | ⟨h1, h2, h3, h4, h5, rfl⟩ | ⟨h1, h2, h3, h4, h5, rfl⟩ | ⟨h1, h2, h3, h4, h5, rfl⟩ | ⟨h1, h2, h3, h4, h5, h6, rfl⟩ | ⟨h1, h2, h3, h4, h5, h6, rfl⟩ | ⟨h1, h2, h3, h4, h5, rfl⟩
  all_goals go_enter Try.func37, Try.ntmps37
  all_goals go_wp2_with (go_at_call 48; refine (Hp.out _).mono ?_; rintro e w' ⟨rfl, rfl⟩)
  all_goals go_ret
  all_goals exact ⟨rfl, below_alloc w (Nat.le_refl _) _⟩
theorem rmay_is (r : Ru) (nodes : Int) (w : World) (h : r.Ok) (e : Int) (he : r.may nodes = e) : Calls Try.prog 37 #[.agg #[.int .u32 r.a, .int .i64 r.n, .int .i64 r.act, .int .i64 r.next], .int .i64 nodes] w fun x w' => x = .returned (.int .i64 e) ∧ Below w.heap.size w w' := by
  have := rmay_any r nodes w h
  rw [he] at this
  exact this
end Go.Proofs.Ytijobfkmchbpcaa
