/-
  Laid together by wip/tools/merge.py out of: RuleWalk, Ref06, TablePlain, TableLaw, TableMore, Reach, RuleAt, Table, RuleMay, Store, Ref08.
-/
import Derived.Deep.MidRow
import Derived.Test.YtdmkiejaejlajaaNhMa

/-! ### RuleWalk -/
namespace Go.Proofs.Ytdmkiejaejlajaa
open Go.RowKit Go.Th
set_option linter.unusedVariables false
/-- A value comes back; what was in memory is as it was. -/
def RetB (v : Value) (w : World) (e : Ending) (w' : World) : Prop := e = .returned v ∧ Below w.heap.size w w'
theorem rcmp_any (r s : Ru) (w : World) (hr : r.Ok) (hs : s.Ok) : Calls Try.prog 40 #[r.v, s.v] w (RetB (.int .i64 (r.cmp s)) w) := by
  have H1 := Lib.hid hr.a
  have H2 := Lib.hid hs.a
  obtain ⟨ra, rn, rac, rne⟩ := r
  obtain ⟨sa, sn, sac, sne⟩ := s
  show Calls Try.prog 40 #[.agg #[.int .u32 ra, .int .i64 rn, .int .i64 rac, .int .i64 rne], .agg #[.int .u32 sa, .int .i64 sn, .int .i64 sac, .int .i64 sne]] w (RetB (.int .i64 (pcmp ra rn sa sn)) w)
  clear hr hs
  go_enter Try.func40, Try.ntmps40
  go_wp2_with (go_at_call 47; refine (pcmp_any _ _ _ _ _ H1.out H2.out).mono ?_; rintro e w' ⟨rfl, rfl⟩)
  go_ret
  exact ⟨rfl, (below_alloc w (Nat.le_refl _) _).trans (below_alloc _ (by simp) _)⟩
theorem rrcmp_any (r s : Ru) (w : World) : Calls Try.prog 36 #[r.v, s.v] w (RetB (.int .i64 (r.cmp s)) w) := by
  obtain ⟨ra, rn, rac, rne⟩ := r
  obtain ⟨sa, sn, sac, sne⟩ := s
  show Calls Try.prog 36 #[.agg #[.int .u32 ra, .int .i64 rn, .int .i64 rac, .int .i64 rne], .agg #[.int .u32 sa, .int .i64 sn, .int .i64 sac, .int .i64 sne]] w (RetB (.int .i64 (pcmp ra rn sa sn)) w)
  go_enter Try.func36, Try.ntmps36
  go_wp2_with (go_at_call 44; refine (rpcmp_any _ _ _ _ _).mono ?_; rintro e w' ⟨rfl, rfl⟩)
  go_ret
  exact ⟨rfl, (below_alloc w (Nat.le_refl _) _).trans (below_alloc _ (by simp) _)⟩
theorem rmask_still (n : Int) (w : World) : Calls Try.prog 43 #[.int .i64 n] w (fun e w' => e = .returned (.int .u32 (maskN n : Nat)) ∧ w' = w) := (rmask_any n w).mono fun _ _ ⟨h1, h2⟩ => ⟨h1, h2.symm⟩
set_option maxRecDepth 100000 in
set_option maxHeartbeats 2000000 in
theorem rfit_any (r : Ru) (nodes : Int) (w : World) (hr : r.Ok) (hn : 1 ≤ nodes ∧ nodes ≤ 4611686018427387904) :
    Calls Try.prog 35 #[r.v, .int .i64 nodes] w (RetB (r.fit nodes).v w) := by
  obtain ⟨ra, rn, rac, rne⟩ := r
  obtain ⟨hn1, hn2⟩ := hn
  have hla := lead_and ra (rn % 33) hr.a
  obtain ⟨t1, ht1⟩ : ∃ t, rn.tmod 33 = t := ⟨_, rfl⟩
  obtain ⟨t2, ht2⟩ : ∃ t, rac.tmod 3 = t := ⟨_, rfl⟩
  obtain ⟨t3, ht3⟩ : ∃ t, rne.tmod nodes = t := ⟨_, rfl⟩
  have b1 := tmod_bd rn 33 (by omega)
  have b2 := tmod_bd rac 3 (by omega)
  have b3 := tmod_bd rne nodes (by omega)
  have u1 := tmod_up rn 33
  have u2 := tmod_up rac 3
  have u3 := tmod_up rne nodes
  rw [ht1] at b1 u1
  rw [ht2] at b2 u2
  rw [ht3] at b3 u3
  obtain ⟨b11, b12⟩ := b1
  obtain ⟨b21, b22⟩ := b2
  obtain ⟨b31, b32⟩ := b3
  obtain ⟨n, hnn⟩ : ∃ n, rn % 33 = n := ⟨_, rfl⟩
  obtain ⟨c, hcc⟩ : ∃ c, rac % 3 = c := ⟨_, rfl⟩
  obtain ⟨x, hxx⟩ : ∃ x, rne % nodes = x := ⟨_, rfl⟩
  have bn : 0 ≤ n ∧ n ≤ 32 := by omega
  have bc : c = 0 ∨ c = 1 ∨ c = 2 := by omega
  have hfit : (Ru.mk ra rn rac rne).fit nodes = ⟨lead ra n, n, if c = 0 then 3 else c, if c = 1 then x else 0⟩ := by unfold Ru.fit; simp only [hnn, hcc, hxx]
  rw [hfit]
  rw [hnn] at u1 hla
  rw [hcc] at u2
  rw [hxx] at u3
  obtain ⟨l, hl⟩ : ∃ l, lead ra n = l := ⟨_, rfl⟩
  rw [hl] at hla ⊢
  obtain ⟨m, hm⟩ : ∃ m, maskN n = m := ⟨_, rfl⟩
  have hms : ∀ w : World, Calls Try.prog 43 #[.int .i64 n] w (fun e w' => e = .returned (.int .u32 (m : Nat)) ∧ w' = w) := fun w => by
    have := rmask_still n w
    rwa [hm] at this
  have Hms := Lib.hid hms
  clear hms
  rw [hm] at hla
  clear hr hfit hnn hcc hxx hl hm
  show Calls Try.prog 35 #[.agg #[.int .u32 ra, .int .i64 rn, .int .i64 rac, .int .i64 rne], .int .i64 nodes] w _
  rcases bc with rfl | rfl | rfl
  all_goals go_enter Try.func35, Try.ntmps35
  all_goals go_wp2
  all_goals have hq0 : ∀ q : Step (w.heap.size + 2) ((w.alloc (.cells #[.int .u32 ra, .int .i64 rn, .int .i64 rac, .int .i64 rne] 40)).alloc (.cells #[.int .u32 0, .int .i64 0, .int .i64 0, .int .i64 0] 40)).drew, q.w.cell? ⟨w.heap.size, 0, none⟩ = some (.int .u32 ra) := fun q => q.cell (by simp) (by go_simp)
  all_goals have hq2 : ∀ q : Step (w.heap.size + 2) ((w.alloc (.cells #[.int .u32 ra, .int .i64 rn, .int .i64 rac, .int .i64 rne] 40)).alloc (.cells #[.int .u32 0, .int .i64 0, .int .i64 0, .int .i64 0] 40)).drew, q.w.cell? ⟨w.heap.size, 2, none⟩ = some (.int .i64 rac) := fun q => q.cell (by simp) (by go_simp)
  all_goals
    refine wp_region_tree (.float 0 3 (.float 5 6 (.two 3 (.float 4 1 (.float 11 1 (.one 12 (.one 13 .done)))) 12 (.one 3 (.float 4 1 (.float 11 1 (.one 13 .done))))))) (Th.Reach (w.heap.size + 2)) (Th.Reach.trans _) (Th.Reach.refl _) (by kernel_rfl) (by kernel_rfl) (fun KT hKT => ?_)
    refine wpTree_float (fun KF hKF => ?_)
    simp only [List.drop, List.take]
    repeat (first | go_big_quiet_skip | go_big_quiet_step (fail) | quiet_step (fail))
    refine wpQuiet_nil ?_
    refine hKF _ ?_
    clear hKF KF
    refine wpTree_float (fun KF hKF => ?_)
    simp only [List.drop, List.take]
    repeat (first | go_big_quiet_skip | go_big_quiet_step (fail) | quiet_step (fail))
    refine wpQuiet_nil ?_
    refine hKF _ ?_
    clear hKF KF
    refine wpTree_two ?_ ?_
    refine wpTree_one (fun KO hKO => ?_)
    simp only [List.drop, List.take]
    go_wp2_with (first | go_at_call 43; refine (Hms.out _).mono ?_; rintro e w9 ⟨rfl, rfl⟩)
    refine anch_end (Th.Reach.of (by first | exact Below.refl _ _ | exact below_alloc _ (by first | omega | (simp; done) | (simp; omega)) _ | exact below_alloc2 _ (by first | omega | (simp; done) | (simp; omega)) _ _ | exact below_alloc2d _ (by simp) _ _ | exact bdrew _ _ | assumption | (exact Below.mono (by assumption) (by first | (simp; done) | (simp; omega) | omega | assumption)))) (hKO _ _ ?_)
    clear hKO KO
    refine wpTree_float (fun KF hKF => ?_)
    simp only [List.drop, List.take]
    repeat (first | go_big_quiet_skip | go_big_quiet_step (fail) | quiet_step (fail))
    refine wpQuiet_nil ?_
    refine hKF _ ?_
    clear hKF KF
    refine wpTree_float (fun KF hKF => ?_)
    simp only [List.drop, List.take]
    repeat (first | go_big_quiet_skip | go_big_quiet_step (fail) | quiet_step (fail))
    refine wpQuiet_nil ?_
    refine hKF _ ?_
    clear hKF KF
    refine wpTree_one (fun KO hKO => ?_)
    simp only [List.drop, List.take]
    go_wp2_with (first | go_at_call 43; refine (Hms.out _).mono ?_; rintro e w9 ⟨rfl, rfl⟩)
    refine anch_end (Th.Reach.of (by first | exact Below.refl _ _ | exact below_alloc _ (by first | omega | (simp; done) | (simp; omega)) _ | exact below_alloc2 _ (by first | omega | (simp; done) | (simp; omega)) _ _ | exact below_alloc2d _ (by simp) _ _ | exact bdrew _ _ | assumption | (exact Below.mono (by assumption) (by first | (simp; done) | (simp; omega) | omega | assumption)))) (hKO _ _ ?_)
    clear hKO KO
    refine wpTree_one (fun KO hKO => ?_)
    simp only [List.drop, List.take]
    go_wp2_with (first | go_at_call 43; refine (Hms.out _).mono ?_; rintro e w9 ⟨rfl, rfl⟩)
    refine anch_end (Th.Reach.of (by first | exact Below.refl _ _ | exact below_alloc _ (by first | omega | (simp; done) | (simp; omega)) _ | exact below_alloc2 _ (by first | omega | (simp; done) | (simp; omega)) _ _ | exact below_alloc2d _ (by simp) _ _ | exact bdrew _ _ | assumption | (exact Below.mono (by assumption) (by first | (simp; done) | (simp; omega) | omega | assumption)))) (hKO _ _ ?_)
    clear hKO KO
    refine wpTree_done ?_
    refine hKT _ _ ?_
    clear hKT KT
    rotate_left 1
    refine wpTree_one (fun KO hKO => ?_)
    simp only [List.drop, List.take]
    go_wp2_with (first | go_at_call 43; refine (Hms.out _).mono ?_; rintro e w9 ⟨rfl, rfl⟩)
    refine anch_end (Th.Reach.of (by first | exact Below.refl _ _ | exact below_alloc _ (by first | omega | (simp; done) | (simp; omega)) _ | exact below_alloc2 _ (by first | omega | (simp; done) | (simp; omega)) _ _ | exact below_alloc2d _ (by simp) _ _ | exact bdrew _ _ | assumption | (exact Below.mono (by assumption) (by first | (simp; done) | (simp; omega) | omega | assumption)))) (hKO _ _ ?_)
    clear hKO KO
    refine wpTree_one (fun KO hKO => ?_)
    simp only [List.drop, List.take]
    go_wp2_with (first | go_at_call 43; refine (Hms.out _).mono ?_; rintro e w9 ⟨rfl, rfl⟩)
    refine anch_end (Th.Reach.of (by first | exact Below.refl _ _ | exact below_alloc _ (by first | omega | (simp; done) | (simp; omega)) _ | exact below_alloc2 _ (by first | omega | (simp; done) | (simp; omega)) _ _ | exact below_alloc2d _ (by simp) _ _ | exact bdrew _ _ | assumption | (exact Below.mono (by assumption) (by first | (simp; done) | (simp; omega) | omega | assumption)))) (hKO _ _ ?_)
    clear hKO KO
    refine wpTree_float (fun KF hKF => ?_)
    simp only [List.drop, List.take]
    repeat (first | go_big_quiet_skip | go_big_quiet_step (fail) | quiet_step (fail))
    refine wpQuiet_nil ?_
    refine hKF _ ?_
    clear hKF KF
    refine wpTree_float (fun KF hKF => ?_)
    simp only [List.drop, List.take]
    repeat (first | go_big_quiet_skip | go_big_quiet_step (fail) | quiet_step (fail))
    refine wpQuiet_nil ?_
    refine hKF _ ?_
    clear hKF KF
    refine wpTree_one (fun KO hKO => ?_)
    simp only [List.drop, List.take]
    go_wp2_with (first | go_at_call 43; refine (Hms.out _).mono ?_; rintro e w9 ⟨rfl, rfl⟩)
    refine anch_end (Th.Reach.of (by first | exact Below.refl _ _ | exact below_alloc _ (by first | omega | (simp; done) | (simp; omega)) _ | exact below_alloc2 _ (by first | omega | (simp; done) | (simp; omega)) _ _ | exact below_alloc2d _ (by simp) _ _ | exact bdrew _ _ | assumption | (exact Below.mono (by assumption) (by first | (simp; done) | (simp; omega) | omega | assumption)))) (hKO _ _ ?_)
    clear hKO KO
    refine wpTree_done ?_
    refine hKT _ _ ?_
    clear hKT KT
    rotate_right 1
  all_goals clear hq0 hq2
  all_goals go_wp2
  all_goals first
    | exact bodyPost_ret (v := .agg #[.int .u32 l, .int .i64 n, .int .i64 3, .int .i64 0]) (by simp [results, Try.results35, go_sem]) rfl ⟨rfl, (by repeat (first | exact Below.refl _ _ | refine Below.drew ?_ | refine Below.alloc ?_ (by first | (simp; done) | (simp; omega)) _ | refine Below.setCell ?_ (by first | (simp; done) | (simp; omega)) _ | assumption))⟩
    | exact bodyPost_ret (v := .agg #[.int .u32 l, .int .i64 n, .int .i64 1, .int .i64 x]) (by simp [results, Try.results35, go_sem]) rfl ⟨rfl, (by repeat (first | exact Below.refl _ _ | refine Below.drew ?_ | refine Below.alloc ?_ (by first | (simp; done) | (simp; omega)) _ | refine Below.setCell ?_ (by first | (simp; done) | (simp; omega)) _ | assumption))⟩
    | exact bodyPost_ret (v := .agg #[.int .u32 l, .int .i64 n, .int .i64 2, .int .i64 0]) (by simp [results, Try.results35, go_sem]) rfl ⟨rfl, (by repeat (first | exact Below.refl _ _ | refine Below.drew ?_ | refine Below.alloc ?_ (by first | (simp; done) | (simp; omega)) _ | refine Below.setCell ?_ (by first | (simp; done) | (simp; omega)) _ | assumption))⟩
end Go.Proofs.Ytdmkiejaejlajaa

/-! ### Ref06 -/
namespace Go.Th
theorem bitN_lt (a i : Nat) : bitN a i < 2 := Nat.mod_lt _ (by omega)
theorem and_one (x : Nat) (h : x < 4294967296) : bits .and .u32 (x : Int) 1 = ((x % 2 : Nat) : Int) := by
  have := and_u32 x 1 h (by omega)
  rw [show (x &&& 1) = x % 2 from Nat.and_one_is_mod x] at this
  exact this
/-- The bits behind the k-th one, of what is behind n. -/
theorem behind_bit (a n k : Nat) (hk : k < 32) (hn : n ≤ k) (h : a % 2 ^ (32 - n) < 2 ^ (32 - k)) : a % 2 ^ (32 - n) < 2 ^ (32 - (k + 1)) ↔ bitN a k = 0 := by
  rw [tail_bit _ k hk h, bit_mod a (32 - n) k (by omega) hk (by omega)]
end Go.Th
namespace Go.Proofs.Ytdmkiejaejlajaa
open Go.RowKit Go.Th
set_option linter.unusedVariables false
theorem bit_any (a i : Nat) (w : World) (ha : a < 4294967296) (hi : i < 32) :
    Calls Try.prog 52 #[.int .u32 (a : Nat), .int .i64 (i : Nat)] w (RetV (.int .i64 (bitN a i : Nat)) w) := by
  have h0 := bitN_lt a i
  have h1 := and_one (a / 2 ^ (31 - i)) (Nat.lt_of_le_of_lt (Nat.div_le_self _ _) ha)
  have he : (a : Int) / 2 ^ (31 - i) = ((a / 2 ^ (31 - i) : Nat) : Int) := by
    rw [Int.natCast_ediv, Int.natCast_pow]; rfl
  obtain ⟨b, hb⟩ : ∃ b, bitN a i = b := ⟨_, rfl⟩
  have h2 : bits .and .u32 ((a : Int) / 2 ^ (31 - i)) 1 = (b : Int) := by rw [he, h1, ← hb]; rfl
  rw [hb] at h0 ⊢
  have H2 := Lib.hid h2
  clear hb h1 he h2
  go_enter Try.func52, Try.ntmps52
  go_wp2
  go_ret
  refine ⟨?_, rfl⟩
  rw [H2.out, show wrap64 (b : Int) = b from by unfold wrap64; omega]
  rfl
theorem rpmay_any (a n : Int) (w : World) (ha : 0 ≤ a ∧ a ≤ 4294967295) :
    Calls Try.prog 48 #[.int .u32 a, .int .i64 n] w (RetV (.int .i64 (pmay a n)) w) := by
  obtain ⟨a, rfl⟩ := Int.eq_ofNat_of_zero_le ha.1
  have ha' : a < 4294967296 := by omega
  by_cases h1 : n < 0
  · have e : pmay a n = 1 := by unfold pmay; rw [if_pos (by omega)]
    rw [e]
    clear e
    go_enter Try.func48, Try.ntmps48
    go_wp2
    go_ret
    exact ⟨rfl, rfl⟩
  by_cases h2 : 32 < n
  · have e : pmay a n = 1 := by unfold pmay; rw [if_pos (by omega)]
    rw [e]
    clear e
    go_enter Try.func48, Try.ntmps48
    go_wp2
    go_ret
    exact ⟨rfl, rfl⟩
  obtain ⟨n, rfl⟩ := Int.eq_ofNat_of_zero_le (by omega : 0 ≤ n)
  have hn : n ≤ 32 := by omega
  have he : pmay a n = if a % 2 ^ (32 - n) = 0 then 0 else 8 := by
    unfold pmay
    rw [if_neg (by omega), Int.toNat_natCast, sh_in (by omega) (by omega), Int.toNat_natCast]
  obtain ⟨v, hv⟩ : ∃ v, pmay a n = v := ⟨_, rfl⟩
  rw [hv] at he ⊢
  have Hv := Lib.hid he
  have hb : ∀ k : Nat, k < 32 → n ≤ k → a % 2 ^ (32 - n) < 2 ^ (32 - k) → (a % 2 ^ (32 - n) < 2 ^ (32 - (k + 1)) ↔ bitN a k = 0) := fun k => behind_bit a n k
  have hy0 : a % 2 ^ (32 - n) < 2 ^ (32 - n) := Nat.mod_lt _ (Nat.two_pow_pos _)
  generalize a % 2 ^ (32 - n) = y at *
  have Hb := Lib.hid hb
  have Hy0 := Lib.hid hy0
  clear hv he hb hy0 ha
  go_enter Try.func48, Try.ntmps48
  go_wp2
  go_loop [5] (fun i => ∃ k : Nat, n ≤ k ∧ k ≤ 32 ∧ i = .int .i64 k ∧ Hid (y < 2 ^ (32 - k))) (fun i => 32 - (intOf i).toNat)
  case atStart => exact ⟨n, by omega, hn, rfl, Hy0⟩
  case round =>
    obtain ⟨k, hnk, hk, rfl, Hy⟩ := hrel
    by_cases hlt : k < 32
    · have h3 := Hb.out k hlt hnk Hy.out
      have h4 := bitN_lt a k
      obtain ⟨b, hbb⟩ : ∃ b, bitN a k = b := ⟨_, rfl⟩
      have hc := bit_any a k w ha' hlt
      rw [hbb] at h3 h4 hc
      have Hc := Lib.hid hc
      clear hc hbb
      rcases (show b = 0 ∨ b = 1 by omega) with rfl | rfl
      · have Hy2 := Lib.hid (h3.2 rfl)
        clear h3
        go_wp2_with (go_at_call 52; refine (Hc.out).mono ?_; rintro e w' ⟨rfl, rfl⟩)
        go_round
        case rel => exact ⟨k + 1, by omega, by omega, by go_num, Hy2⟩
        case measure => simp [intOf]; omega
      · have hy1 : y ≠ 0 := fun e => by
          have := h3.1 (by rw [e]; exact Nat.two_pow_pos _)
          omega
        have Hf := Lib.hid (Hv.out.trans (if_neg hy1))
        clear h3 hy1
        go_wp2_with (go_at_call 52; refine (Hc.out).mono ?_; rintro e w' ⟨rfl, rfl⟩)
        go_ret
        exact ⟨by rw [Hf.out]; try rfl, rfl⟩
    · have hk32 : k = 32 := by omega
      subst hk32
      have hy1 : y = 0 := by have := Hy.out; omega
      have Hf := Lib.hid (Hv.out.trans (if_pos hy1))
      clear hy1
      go_wp2
      go_ret
      exact ⟨by rw [Hf.out]; try rfl, rfl⟩
theorem rholds_any (a n x : Int) (w : World) (ha : 0 ≤ a ∧ a ≤ 4294967295) (hx : 0 ≤ x ∧ x ≤ 4294967295) :
    Calls Try.prog 49 #[.int .u32 a, .int .i64 n, .int .u32 x] w (RetV (.bool (holds a n x)) w) := by
  obtain ⟨a, rfl⟩ := Int.eq_ofNat_of_zero_le ha.1
  obtain ⟨x, rfl⟩ := Int.eq_ofNat_of_zero_le hx.1
  have ha' : a < 4294967296 := by omega
  have hx' : x < 4294967296 := by omega
  obtain ⟨m, hm, hm2⟩ : ∃ m : Nat, clamp n = m ∧ m ≤ 32 := ⟨_, rfl, clamp_le n⟩
  have hin : ∀ i : Nat, i < 32 → ((i : Int) < n ↔ i < m) := by
    intro i hi
    unfold clamp at hm
    split at hm
    · omega
    · split at hm <;> omega
  have he : holds a n x = decide (a / 2 ^ (32 - m) = x / 2 ^ (32 - m)) := by unfold holds head sh; rw [hm, Int.toNat_natCast, Int.toNat_natCast]
  obtain ⟨v, hv⟩ : ∃ v, holds a n x = v := ⟨_, rfl⟩
  rw [hv] at he ⊢
  have Hv := Lib.hid he
  have Hin := Lib.hid hin
  clear hv he hin hm ha hx
  go_enter Try.func49, Try.ntmps49
  go_wp2
  go_loop [7] (fun i => ∃ k : Nat, k ≤ m ∧ i = .int .i64 k ∧ Hid (a / 2 ^ (32 - k) = x / 2 ^ (32 - k))) (fun i => 32 - (intOf i).toNat)
  case atStart => exact ⟨0, by omega, rfl, Lib.hid (by rw [Nat.div_eq_of_lt (by omega), Nat.div_eq_of_lt (by omega)])⟩
  case round =>
    obtain ⟨k, hk, rfl, Hy⟩ := hrel
    by_cases hlt : k < m
    · have hk32 : k < 32 := by omega
      have hkn := (Hin.out k hk32).2 hlt
      have h3 := head_bit a x k hk32 Hy.out
      have h4 := bitN_lt a k
      have h5 := bitN_lt x k
      have hmo := fun h => head_more a x (32 - m) (32 - (k + 1)) (by omega) h
      obtain ⟨b, hbb⟩ : ∃ b, bitN a k = b := ⟨_, rfl⟩
      obtain ⟨c, hcc⟩ : ∃ c, bitN x k = c := ⟨_, rfl⟩
      have hc := fun W => bit_any a k W ha' hk32
      have hd := fun W => bit_any x k W hx' hk32
      rw [hbb] at h3 h4 hc
      rw [hcc] at h3 h5 hd
      have Hc := Lib.hid hc
      have Hd := Lib.hid hd
      clear hc hd hbb hcc
      by_cases hbc : b = c
      · have Hy2 := Lib.hid (h3.2 hbc)
        subst hbc
        clear h3 hmo
        have hq : ((b : Int) != (b : Int)) = false := by simp
        go_wp2_with fail
        refine (Hc.out _).mono ?_
        rintro e w1 ⟨rfl, rfl⟩
        go_wp2_with fail
        refine (Hd.out _).mono ?_
        rintro e w1 ⟨rfl, rfl⟩
        go_wp2
        go_round
        case rel => exact ⟨k + 1, by omega, by go_num, Hy2⟩
        case measure => simp [intOf]; omega
      · have hq : ((b : Int) != (c : Int)) = true := by simp; omega
        have Hf := Lib.hid (Hv.out.trans (decide_eq_false fun h => hbc (h3.1 (hmo h))))
        clear h3 hmo hbc
        go_wp2_with fail
        refine (Hc.out _).mono ?_
        rintro e w1 ⟨rfl, rfl⟩
        go_wp2_with fail
        refine (Hd.out _).mono ?_
        rintro e w1 ⟨rfl, rfl⟩
        go_wp2
        go_ret
        exact ⟨by rw [Hf.out]; try rfl, rfl⟩
    · have hkm : k = m := by omega
      subst hkm
      have Hf := Lib.hid (Hv.out.trans (decide_eq_true Hy.out))
      have hways : (k < 32 ∧ ¬ (k : Int) < n) ∨ k = 32 := by
        by_cases h : k < 32
        · exact .inl ⟨h, fun hh => absurd ((Hin.out k h).1 hh) (by omega)⟩
        · exact .inr (by omega)
      clear hlt
      rcases hways with ⟨hk32, hkn⟩ | rfl
      · go_wp2
        go_ret
        exact ⟨by rw [Hf.out]; try rfl, rfl⟩
      · go_wp2
        go_ret
        exact ⟨by rw [Hf.out]; try rfl, rfl⟩
set_option maxHeartbeats 1000000 in
theorem rmay_any (r : Ru) (nodes : Int) (w : World) (h : r.Ok) : Calls Try.prog 41 #[r.v, .int .i64 nodes] w (RetB (.int .i64 (r.may nodes)) w) := by
  have Ha := Lib.hid h.a
  have Hn := Lib.hid h.n
  have hc : (pmay r.a r.n != 0) = true ∧ r.may nodes = pmay r.a r.n ∨
      (pmay r.a r.n != 0) = false ∧ (r.act == 1) = true ∧ (r.act != 1) = false ∧ r.next < 0 ∧ r.may nodes = 10 ∨
      (pmay r.a r.n != 0) = false ∧ (r.act == 1) = true ∧ (r.act != 1) = false ∧ 0 ≤ r.next ∧ nodes ≤ r.next ∧ r.may nodes = 10 ∨
      (pmay r.a r.n != 0) = false ∧ (r.act == 1) = true ∧ (r.act != 1) = false ∧ 0 ≤ r.next ∧ r.next < nodes ∧ r.may nodes = 0 ∨
      (pmay r.a r.n != 0) = false ∧ (r.act == 1) = false ∧ (r.act != 1) = true ∧ (r.act != 2) = false ∧ (r.next != 0) = true ∧ r.may nodes = 10 ∨
      (pmay r.a r.n != 0) = false ∧ (r.act == 1) = false ∧ (r.act != 1) = true ∧ (r.act != 2) = false ∧ (r.next != 0) = false ∧ r.may nodes = 0 ∨
      (pmay r.a r.n != 0) = false ∧ (r.act == 1) = false ∧ (r.act != 1) = true ∧ (r.act != 2) = true ∧ (r.act != 3) = false ∧ (r.next != 0) = true ∧ r.may nodes = 10 ∨
      (pmay r.a r.n != 0) = false ∧ (r.act == 1) = false ∧ (r.act != 1) = true ∧ (r.act != 2) = true ∧ (r.act != 3) = false ∧ (r.next != 0) = false ∧ r.may nodes = 0 ∨
      (pmay r.a r.n != 0) = false ∧ (r.act == 1) = false ∧ (r.act != 1) = true ∧ (r.act != 2) = true ∧ (r.act != 3) = true ∧ r.may nodes = 9 := by
    unfold Ru.may
    by_cases h0 : pmay r.a r.n = 0
    · by_cases h1 : r.act = 1
      · by_cases h2 : r.next < 0
        · simp [h0, h1, h2]
        · by_cases h3 : nodes ≤ r.next
          · simp [h0, h1, h2, h3]; omega
          · simp [h0, h1, h2, h3]; omega
      · by_cases h2 : r.act = 2
        · by_cases h3 : r.next = 0 <;> simp [h0, h2, h3]
        · by_cases h3 : r.act = 3
          · by_cases h4 : r.next = 0 <;> simp [h0, h3, h4]
          · simp [h0, h1, h2, h3]
    · simp [h0]
  obtain ⟨a, n, act, next⟩ := r
  show Calls Try.prog 41 #[.agg #[.int .u32 a, .int .i64 n, .int .i64 act, .int .i64 next], .int .i64 nodes] w _
  simp only at Ha Hn hc
  generalize Ru.may ⟨a, n, act, next⟩ nodes = v at *
  have hp := fun W => rpmay_any a n W Ha.out
  generalize pmay a n = e at *
  have Hp := Lib.hid hp
  clear h hp
  rcases hc with ⟨h1, rfl⟩ | ⟨h1, h2, h3, h4, rfl⟩ | ⟨h1, h2, h3, h4, h5, rfl⟩ | ⟨h1, h2, h3, h4, h5, rfl⟩ | ⟨h1, h2, h3, h4, h5, rfl⟩ | ⟨h1, h2, h3, h4, h5, rfl⟩ | ⟨h1, h2, h3, h4, h5, h6, rfl⟩ | ⟨h1, h2, h3, h4, h5, h6, rfl⟩ | ⟨h1, h2, h3, h4, h5, rfl⟩
  all_goals go_enter Try.func41, Try.ntmps41
  all_goals go_wp2_with (go_at_call 48; refine (Hp.out _).mono ?_; rintro e w' ⟨rfl, rfl⟩)
  all_goals go_ret
  all_goals exact ⟨rfl, below_alloc w (Nat.le_refl _) _⟩
theorem rmay_is (r : Ru) (nodes : Int) (w : World) (h : r.Ok) (e : Int) (he : r.may nodes = e) : Calls Try.prog 41 #[.agg #[.int .u32 r.a, .int .i64 r.n, .int .i64 r.act, .int .i64 r.next], .int .i64 nodes] w fun x w' => x = .returned (.int .i64 e) ∧ Below w.heap.size w w' := by
  have := rmay_any r nodes w h
  rw [he] at this
  exact this
end Go.Proofs.Ytdmkiejaejlajaa

/-! ### TablePlain -/
namespace Go.Th
def Ru.zero : Ru := ⟨0, 0, 0, 0⟩
/-- Find. -/
def fstep (x : Int) (st : Ru × Bool) (r : Ru) : Ru × Bool := if r.holds x = false then st else if st.2 = true ∧ r.n ≤ st.1.n then st else (r, true)
def tfind (l : List Ru) (x : Int) : Ru × Bool := l.foldl (fstep x) (Ru.zero, false)
theorem tfind_snoc {l : List Ru} {k : Nat} {r : Ru} (x : Int) (h : l[k]? = some r) : tfind (l.take (k + 1)) x = fstep x (tfind (l.take k) x) r := by
  unfold tfind
  rw [List.take_add_one, h, List.foldl_append]
  rfl
def tnext (l : List Ru) (x : Int) : Int × Bool := if (tfind l x).2 = true ∧ (tfind l x).1.act = 1 then ((tfind l x).1.next, true) else (0, false)
def below (r : Ru) (s : Ru) : Bool := decide (s.cmp r < 0)
def place (out : List Ru) (r : Ru) : Nat := (out.takeWhile (below r)).length
def ins (out : List Ru) (r : Ru) : List Ru :=
  match out[place out r]? with
  | some s => if s.cmp r = 0 then out else out.take (place out r) ++ r :: out.drop (place out r)
  | none => out ++ [r]
def fitT (l : List Ru) (nodes : Int) : List Ru := (l.take 20).foldl (fun out r => ins out (r.fit nodes)) []
def fitTo (l : List Ru) (nodes : Int) (k : Nat) : List Ru := ((l.take 20).take k).foldl (fun out r => ins out (r.fit nodes)) []
theorem fitTo_snoc {l : List Ru} {k : Nat} {r : Ru} (nodes : Int) (h : l[k]? = some r) (hk : k < 20) : fitTo l nodes (k + 1) = ins (fitTo l nodes k) (r.fit nodes) := by
  unfold fitTo
  have h2 : (l.take 20)[k]? = some r := by rw [List.getElem?_take, if_pos hk, h]
  rw [List.take_add_one, h2, List.foldl_append]
  rfl
theorem fitTo_end {l : List Ru} {k : Nat} (nodes : Int) (h : min l.length 20 ≤ k) : fitTo l nodes k = fitT l nodes := by
  unfold fitTo fitT
  rw [List.take_of_length_le (by rw [List.length_take]; omega)]
theorem ins_length (out : List Ru) (r : Ru) : (ins out r).length ≤ out.length + 1 := by
  unfold ins
  split
  · split
    · omega
    · rw [List.length_append, List.length_cons, List.length_take, List.length_drop]; omega
  · simp
theorem fitTo_length (l : List Ru) (nodes : Int) (k : Nat) : (fitTo l nodes k).length ≤ k := by
  unfold fitTo
  have key : ∀ (m : List Ru) (out : List Ru), (m.foldl (fun out r => ins out (r.fit nodes)) out).length ≤ out.length + m.length := by
    intro m
    induction m with
    | nil => simp
    | cons r m ih =>
      intro out
      have h1 := ih (ins out (r.fit nodes))
      have h2 := ins_length out (r.fit nodes)
      simp only [List.foldl_cons, List.length_cons]
      omega
  have := key ((l.take 20).take k) []
  rw [List.length_take] at this
  simp at this ⊢
  omega
theorem takeWhile_at (p : Ru → Bool) : ∀ (out : List Ru) (j : Nat), (∀ i s, i < j → out[i]? = some s → p s = true) → j ≤ out.length → (∀ s, out[j]? = some s → p s = false) → (out.takeWhile p).length = j
  | [], j, _, hj, _ => by simp at hj; subst hj; rfl
  | s :: out, 0, _, _, h => by
    have := h s rfl
    rw [List.takeWhile_cons, this]
    rfl
  | s :: out, j + 1, h, hj, h2 => by
    have h0 := h 0 s (by omega) rfl
    rw [List.takeWhile_cons, h0]
    simp only [if_true, List.length_cons]
    rw [takeWhile_at p out j (fun i s' hi hs => h (i + 1) s' (by omega) (by simpa using hs)) (by simpa using hj) (fun s' hs => h2 s' (by simpa using hs))]
theorem place_at {out : List Ru} {s : Ru} {j : Nat} (h : ∀ i t, i < j → out[i]? = some t → below s t = true) (hj : j ≤ out.length) (h2 : ∀ t, out[j]? = some t → below s t = false) : place out s = j := takeWhile_at _ out j h hj h2
theorem ins_same {out : List Ru} {s t : Ru} {j : Nat} (hp : place out s = j) (ht : out[j]? = some t) (h : t.cmp s = 0) : ins out s = out := by
  unfold ins
  rw [hp, ht]
  simp only [h, if_true]
theorem ins_new {out : List Ru} {s t : Ru} {j : Nat} (hp : place out s = j) (ht : out[j]? = some t) (h : t.cmp s ≠ 0) : ins out s = out.take j ++ s :: out.drop j := by
  unfold ins
  rw [hp, ht]
  simp only [h, if_false]
theorem ins_last {out : List Ru} {s : Ru} {j : Nat} (hp : place out s = j) (hj : out.length = j) : ins out s = out.take j ++ s :: out.drop j := by
  unfold ins
  rw [hp, List.getElem?_eq_none (by omega), List.take_of_length_le (by omega), List.drop_eq_nil_of_le (by omega)]
end Go.Th

/-! ### TableLaw -/
namespace Go.Th
/-- A rule whose prefix may be. -/
structure Ru.Pre (r : Ru) : Prop where
  ok : r.Ok
  n0 : 0 ≤ r.n
  n1 : r.n ≤ 32
  host : r.a.toNat % 2 ^ sh r.n = 0
theorem lead_mod (a n : Int) : (lead a n).toNat % 2 ^ sh n = 0 := by
  unfold lead
  rw [Int.toNat_natCast, Nat.mul_mod_left]
theorem Ru.fit_pre (r : Ru) (nodes : Int) (h : r.Ok) (hn : 1 ≤ nodes ∧ nodes ≤ 4611686018427387904) : (r.fit nodes).Pre :=
  ⟨Ru.fit_ok r nodes h hn, by show 0 ≤ r.n % 33; omega, by show r.n % 33 ≤ 32; omega, lead_mod _ _⟩
/-- Two rules that hold one address and are as long are of one prefix. -/
theorem Ru.Pre.same {r s : Ru} (hr : r.Pre) (hs : s.Pre) {x : Int} (h1 : r.holds x = true) (h2 : s.holds x = true) (hn : r.n = s.n) : r.a = s.a := by
  have e1 := of_decide_eq_true h1
  have e2 := of_decide_eq_true h2
  unfold head at e1 e2
  rw [hn] at e1
  have e3 := e1.trans e2.symm
  have q1 := Nat.div_add_mod r.a.toNat (2 ^ sh s.n)
  have q2 := Nat.div_add_mod s.a.toNat (2 ^ sh s.n)
  have m1 := hr.host
  have m2 := hs.host
  rw [hn] at m1
  rw [m1, e3] at q1
  rw [m2] at q2
  have := hr.ok.a
  have := hs.ok.a
  omega
/-- The order of rules. -/
theorem icmp_neg (a b : Int) : icmp b a = -icmp a b := by unfold icmp; split <;> split <;> (try split) <;> omega
theorem Ru.cmp_neg (r s : Ru) : s.cmp r = -r.cmp s := by
  unfold Ru.cmp pcmp
  by_cases h : r.a = s.a
  · rw [if_pos h, if_pos h.symm, icmp_neg]
  · rw [if_neg h, if_neg (fun e => h e.symm), icmp_neg]
theorem Ru.cmp_zero (r s : Ru) : r.cmp s = 0 ↔ r.a = s.a ∧ r.n = s.n := by
  unfold Ru.cmp pcmp icmp
  split <;> split <;> (try split) <;> omega
theorem Ru.cmp_lt (r s : Ru) : r.cmp s < 0 ↔ r.a < s.a ∨ (r.a = s.a ∧ r.n < s.n) := by
  unfold Ru.cmp pcmp icmp
  split <;> split <;> (try split) <;> omega
theorem Ru.cmp_trans {r s t : Ru} (h1 : r.cmp s < 0) (h2 : s.cmp t < 0) : r.cmp t < 0 := by
  rw [Ru.cmp_lt] at *
  omega
theorem Ru.cmp_vals (r s : Ru) : r.cmp s = -1 ∨ r.cmp s = 0 ∨ r.cmp s = 1 := by
  unfold Ru.cmp pcmp icmp
  split <;> split <;> (try split) <;> omega
/-- In order, each prefix once. -/
def Sorted (l : List Ru) : Prop := l.Pairwise fun r s => r.cmp s < 0
theorem Sorted.key {l : List Ru} (h : Sorted l) {r s : Ru} (hr : r ∈ l) (hs : s ∈ l) (hz : r.cmp s = 0) : r = s := by
  induction l with
  | nil => cases hr
  | cons t l ih =>
    obtain ⟨h1, h2⟩ := List.pairwise_cons.1 h
    rcases List.mem_cons.1 hr with rfl | hr' <;> rcases List.mem_cons.1 hs with rfl | hs'
    · rfl
    · have := h1 s hs'; omega
    · have := h1 r hr'; have := Ru.cmp_neg r s; omega
    · exact ih h2 hr' hs'
/-- What Find tells, as a law: one of the longest that hold. -/
def IsBest (l : List Ru) (x : Int) (p : Ru × Bool) : Prop :=
  (p.2 = false → p.1 = Ru.zero ∧ ∀ r ∈ l, r.holds x = false) ∧ (p.2 = true → p.1 ∈ l ∧ p.1.holds x = true ∧ ∀ r ∈ l, r.holds x = true → r.n ≤ p.1.n)
theorem tfind_best (l : List Ru) (x : Int) : IsBest l x (tfind l x) := by
  have key : ∀ (m pre : List Ru) (p : Ru × Bool), IsBest pre x p → IsBest (pre ++ m) x (m.foldl (fstep x) p) := by
    intro m
    induction m with
    | nil => intro pre p h; simpa using h
    | cons r m ih =>
      intro pre p h
      rw [List.foldl_cons, show pre ++ r :: m = (pre ++ [r]) ++ m by simp]
      refine ih _ _ ?_
      obtain ⟨h1, h2⟩ := h
      unfold fstep
      split
      · rename_i hh
        refine ⟨fun h => ⟨(h1 h).1, fun s hs => ?_⟩, fun h => ⟨List.mem_append_left _ (h2 h).1, (h2 h).2.1, fun s hs hs2 => ?_⟩⟩
        · rcases List.mem_append.1 hs with hs | hs
          · exact (h1 h).2 s hs
          · rw [List.mem_singleton.1 hs]; exact hh
        · rcases List.mem_append.1 hs with hs | hs
          · exact (h2 h).2.2 s hs hs2
          · rw [List.mem_singleton.1 hs, hh] at hs2; cases hs2
      · rename_i hh
        have hh' : r.holds x = true := by simpa using hh
        split
        · rename_i hc
          refine ⟨fun h => (by rw [hc.1] at h; cases h), fun h => ⟨List.mem_append_left _ (h2 h).1, (h2 h).2.1, fun s hs hs2 => ?_⟩⟩
          rcases List.mem_append.1 hs with hs | hs
          · exact (h2 h).2.2 s hs hs2
          · rw [List.mem_singleton.1 hs]; exact hc.2
        · rename_i hc
          refine ⟨(fun h => by cases h), fun _ => ⟨List.mem_append_right _ (by simp), hh', fun s hs hs2 => ?_⟩⟩
          rcases List.mem_append.1 hs with hs | hs
          · cases hp : p.2 with
            | false => rw [(h1 hp).2 s hs] at hs2; cases hs2
            | true =>
              have := (h2 hp).2.2 s hs hs2
              have : ¬ r.n ≤ p.1.n := fun e => hc ⟨hp, e⟩
              show s.n ≤ r.n
              omega
          · rw [List.mem_singleton.1 hs]; exact Int.le_refl _
  have := key l [] (Ru.zero, false) ⟨fun _ => ⟨rfl, by simp⟩, by simp⟩
  unfold tfind
  simpa using this
/-- A table that may be, as far as Find goes. -/
structure GoodT (l : List Ru) : Prop where
  pre : ∀ r ∈ l, r.Pre
  sorted : Sorted l
theorem GoodT.uniq {l : List Ru} (h : GoodT l) {x : Int} {r s : Ru} (hr : r ∈ l) (hs : s ∈ l) (h1 : r.holds x = true) (h2 : s.holds x = true) (hn : r.n = s.n) : r = s :=
  h.sorted.key hr hs ((Ru.cmp_zero r s).2 ⟨(h.pre r hr).same (h.pre s hs) h1 h2 hn, hn⟩)
/-- The rule that is found is the only one of its kind. -/
theorem GoodT.best {l : List Ru} (h : GoodT l) {x : Int} {p : Ru × Bool} (hp : IsBest l x p) : tfind l x = p := by
  have hq := tfind_best l x
  generalize tfind l x = q at *
  obtain ⟨r, b⟩ := p
  obtain ⟨s, c⟩ := q
  cases b <;> cases c
  · have := (hp.1 rfl).1; have := (hq.1 rfl).1; simp_all
  · have h1 := (hq.2 rfl); have h2 := (hp.1 rfl).2 s h1.1; simp_all
  · have h1 := (hp.2 rfl); have h2 := (hq.1 rfl).2 r h1.1; simp_all
  · obtain ⟨a1, a2, a3⟩ := hp.2 rfl
    obtain ⟨b1, b2, b3⟩ := hq.2 rfl
    have c1 := a3 s b1 b2
    have c2 := b3 r a1 a2
    have : s = r := h.uniq b1 a1 b2 a2 (by show s.n = r.n; simp only at c1 c2; omega)
    rw [this]
theorem GoodT.nil : GoodT [] := ⟨by simp, List.Pairwise.nil⟩
theorem place_le (out : List Ru) (s : Ru) : place out s ≤ out.length := by
  unfold place
  exact (List.takeWhile_sublist _).length_le
theorem mem_takeWhile (p : Ru → Bool) : ∀ (l : List Ru) (t : Ru), t ∈ l.takeWhile p → p t = true
  | [], t, h => by simp at h
  | u :: l, t, h => by
    rw [List.takeWhile_cons] at h
    split at h
    · rename_i hu
      rcases List.mem_cons.1 h with rfl | h
      · exact hu
      · exact mem_takeWhile p l t h
    · cases h
theorem place_low (out : List Ru) (s : Ru) : ∀ t ∈ out.take (place out s), t.cmp s < 0 := by
  intro t ht
  unfold place at ht
  rw [List.prefix_iff_eq_take.1 (List.takeWhile_prefix (below s) (l := out)) |>.symm] at ht
  exact of_decide_eq_true (mem_takeWhile _ _ _ ht)
theorem place_high (out : List Ru) (s t : Ru) (h : out[place out s]? = some t) : ¬ t.cmp s < 0 := by
  unfold place at h
  intro hc
  have key : ∀ (l : List Ru), l[(l.takeWhile (below s)).length]? = some t → False := by
    intro l
    induction l with
    | nil => simp
    | cons u l ih =>
      rw [List.takeWhile_cons]
      split
      · intro h; rw [List.length_cons, List.getElem?_cons_succ] at h; exact ih h
      · rename_i hb
        intro h
        simp at h
        subst h
        exact hb (decide_eq_true hc)
  exact key out h
theorem place_above {out : List Ru} (hs : Sorted out) (s : Ru) (hne : ∀ t, out[place out s]? = some t → t.cmp s ≠ 0) : ∀ t ∈ out.drop (place out s), s.cmp t < 0 := by
  intro t ht
  generalize hj : place out s = j at *
  cases hd : out[j]? with
  | none =>
    rw [List.drop_eq_nil_of_le (by simpa using hd)] at ht
    cases ht
  | some u =>
    have h1 := place_high out s u (by rw [hj]; exact hd)
    have h2 := hne u hd
    have h3 := Ru.cmp_neg u s
    have h4 : s.cmp u < 0 := by omega
    obtain ⟨hl, rfl⟩ := List.getElem?_eq_some_iff.1 hd
    rw [List.drop_eq_getElem_cons hl] at ht
    rcases List.mem_cons.1 ht with rfl | ht
    · exact h4
    · have hp : Sorted (out.drop j) := List.Pairwise.sublist (List.drop_sublist j out) hs
      rw [List.drop_eq_getElem_cons hl] at hp
      exact Ru.cmp_trans h4 ((List.pairwise_cons.1 hp).1 t ht)
/-- What is put: the row as it was, if its prefix is there; else one rule more. -/
theorem ins_cases {out : List Ru} (h : GoodT out) (s : Ru) : (ins out s = out ∧ ∃ t ∈ out, t.cmp s = 0) ∨ (ins out s = out.take (place out s) ++ s :: out.drop (place out s) ∧ (∀ t ∈ out, t.cmp s ≠ 0) ∧ (∀ t ∈ out.take (place out s), t.cmp s < 0) ∧ ∀ t ∈ out.drop (place out s), s.cmp t < 0) := by
  by_cases hz : ∃ t, out[place out s]? = some t ∧ t.cmp s = 0
  · obtain ⟨t, ht, hc⟩ := hz
    exact .inl ⟨ins_same rfl ht hc, t, List.mem_of_getElem? ht, hc⟩
  · have hne : ∀ t, out[place out s]? = some t → t.cmp s ≠ 0 := fun t ht hc => hz ⟨t, ht, hc⟩
    have hab := place_above h.sorted s hne
    have hlo := place_low out s
    refine .inr ⟨?_, fun t ht => ?_, hlo, hab⟩
    · cases hd : out[place out s]? with
      | none => exact ins_last rfl (by have := place_le out s; have := List.getElem?_eq_none_iff.1 hd; omega)
      | some u => exact ins_new rfl hd (hne u hd)
    · rw [← List.take_append_drop (place out s) out] at ht
      rcases List.mem_append.1 ht with ht | ht
      · have := hlo t ht; omega
      · have := hab t ht; have := Ru.cmp_neg s t; omega
theorem ins_good {out : List Ru} (h : GoodT out) {s : Ru} (hs : s.Pre) : GoodT (ins out s) := by
  rcases ins_cases h s with ⟨e, _⟩ | ⟨e, _, hlo, hab⟩
  · rw [e]; exact h
  · rw [e]
    refine ⟨fun t ht => ?_, ?_⟩
    · rcases List.mem_append.1 ht with ht | ht
      · exact h.pre t (List.mem_of_mem_take ht)
      · rcases List.mem_cons.1 ht with rfl | ht
        · exact hs
        · exact h.pre t (List.mem_of_mem_drop ht)
    · refine List.pairwise_append.2 ⟨List.Pairwise.sublist (List.take_sublist _ _) h.sorted, List.pairwise_cons.2 ⟨hab, List.Pairwise.sublist (List.drop_sublist _ _) h.sorted⟩, fun a ha b hb => ?_⟩
      rcases List.mem_cons.1 hb with rfl | hb
      · exact hlo a ha
      · exact Ru.cmp_trans (hlo a ha) (hab b hb)
theorem ins_length_same {out : List Ru} (h : GoodT out) {s : Ru} (hl : (ins out s).length = out.length) : ins out s = out := by
  rcases ins_cases h s with ⟨e, _⟩ | ⟨e, _⟩
  · exact e
  · rw [e, List.length_append, List.length_cons, List.length_take, List.length_drop] at hl
    have := place_le out s
    omega
theorem ins_length_more {out : List Ru} (h : GoodT out) {s : Ru} (hl : (ins out s).length ≠ out.length) : (∀ t, t ∈ ins out s ↔ t ∈ out ∨ t = s) ∧ ∀ t ∈ out, t.cmp s ≠ 0 := by
  rcases ins_cases h s with ⟨e, _⟩ | ⟨e, hne, _⟩
  · rw [e] at hl; exact absurd rfl hl
  · refine ⟨fun t => ?_, hne⟩
    rw [e]
    have hm : t ∈ out ↔ t ∈ out.take (place out s) ∨ t ∈ out.drop (place out s) := by
      rw [← List.mem_append, List.take_append_drop]
    rw [List.mem_append, List.mem_cons, hm]
    constructor
    · rintro (h | h | h)
      · exact .inl (.inl h)
      · exact .inr h
      · exact .inl (.inr h)
    · rintro ((h | h) | h)
      · exact .inl h
      · exact .inr (.inr h)
      · exact .inr (.inl h)
/-- Put behind a row that it is above of all of. -/
theorem ins_top {out : List Ru} {s : Ru} (h : ∀ t ∈ out, t.cmp s < 0) : ins out s = out ++ [s] := by
  have hp : place out s = out.length := place_at (fun i t _ ht => decide_eq_true (h t (List.mem_of_getElem? ht))) (Nat.le_refl _) (fun t ht => by have := (List.getElem?_eq_some_iff.1 ht).1; omega)
  rw [ins_last hp rfl, List.take_of_length_le (Nat.le_refl _), List.drop_eq_nil_of_le (Nat.le_refl _)]
def Sound (nodes : Int) : Prop := 1 ≤ nodes ∧ nodes ≤ 4611686018427387904
theorem fold_good {nodes : Int} (hn : Sound nodes) : ∀ (l out : List Ru), (∀ r ∈ l, r.Ok) → GoodT out → GoodT (l.foldl (fun out r => ins out (r.fit nodes)) out)
  | [], out, _, h => h
  | r :: l, out, hl, h => fold_good hn l _ (fun s hs => hl s (by simp [hs])) (ins_good h (Ru.fit_pre r nodes (hl r (by simp)) hn))
theorem fitT_good {nodes : Int} (hn : Sound nodes) (l : List Ru) (hl : ∀ r ∈ l, r.Ok) : GoodT (fitT l nodes) := fold_good hn _ [] (fun r hr => hl r (List.mem_of_mem_take hr)) GoodT.nil
/-- A rule that is made such is made so again. -/
theorem lead_lead (a n : Int) : lead (lead a n) n = lead a n := by
  unfold lead
  rw [Int.toNat_natCast, Nat.mul_div_cancel _ (Nat.lt_of_lt_of_le (by omega) (pow_sh n).1)]
theorem Ru.fit_fit (r : Ru) (nodes : Int) : (r.fit nodes).fit nodes = r.fit nodes := by
  unfold Ru.fit
  have h0 : 0 ≤ r.act % 3 ∧ r.act % 3 < 3 := by omega
  have hc : r.act % 3 = 0 ∨ r.act % 3 = 1 ∨ r.act % 3 = 2 := by omega
  simp only [Int.emod_emod_of_dvd _ (Int.dvd_refl _), lead_lead, Ru.mk.injEq, true_and]
  rcases hc with h | h | h <;> simp [h, Int.emod_emod_of_dvd _ (Int.dvd_refl _)]
/-- All its rules are as they are made. -/
def Fitted (nodes : Int) (l : List Ru) : Prop := ∀ r ∈ l, r.fit nodes = r
theorem ins_fitted {nodes : Int} {out : List Ru} (h : GoodT out) (hf : Fitted nodes out) (r : Ru) : Fitted nodes (ins out (r.fit nodes)) := by
  intro t ht
  rcases ins_cases h (r.fit nodes) with ⟨e, _⟩ | ⟨e, _⟩
  · rw [e] at ht; exact hf t ht
  · rw [e] at ht
    rcases List.mem_append.1 ht with ht | ht
    · exact hf t (List.mem_of_mem_take ht)
    · rcases List.mem_cons.1 ht with rfl | ht
      · exact Ru.fit_fit r nodes
      · exact hf t (List.mem_of_mem_drop ht)
theorem fold_fitted {nodes : Int} (hn : Sound nodes) : ∀ (l out : List Ru), (∀ r ∈ l, r.Ok) → GoodT out → Fitted nodes out → Fitted nodes (l.foldl (fun out r => ins out (r.fit nodes)) out)
  | [], out, _, _, h => h
  | r :: l, out, hl, hg, h => fold_fitted hn l _ (fun s hs => hl s (by simp [hs])) (ins_good hg (Ru.fit_pre r nodes (hl r (by simp)) hn)) (ins_fitted hg h r)
theorem fitT_fitted {nodes : Int} (hn : Sound nodes) (l : List Ru) (hl : ∀ r ∈ l, r.Ok) : Fitted nodes (fitT l nodes) := fold_fitted hn _ [] (fun r hr => hl r (List.mem_of_mem_take hr)) GoodT.nil (by intro r hr; cases hr)
/-- A table that may be is made of itself. -/
theorem fold_self {nodes : Int} : ∀ (l out : List Ru), Sorted (out ++ l) → Fitted nodes l → l.foldl (fun out r => ins out (r.fit nodes)) out = out ++ l
  | [], out, _, _ => by simp
  | r :: l, out, hs, hf => by
    rw [List.foldl_cons, hf r (by simp), ins_top (fun t ht => (List.pairwise_append.1 hs).2.2 t ht r (by simp)), fold_self l (out ++ [r]) (by simpa using hs) (fun s h => hf s (by simp [h]))]
    simp
theorem fitT_more {nodes : Int} {w : List Ru} (hg : GoodT w) (hf : Fitted nodes w) {r : Ru} (hr : r.fit nodes = r) (hl : w.length ≤ 19) : fitT (w ++ [r]) nodes = ins w r := by
  unfold fitT
  rw [List.take_of_length_le (by simp; omega), List.foldl_append, fold_self w [] (by simpa using hg.sorted) hf]
  simp [hr]
theorem fitT_length (l : List Ru) (nodes : Int) : (fitT l nodes).length ≤ min l.length 20 := by
  have h := fitTo_length l nodes (min l.length 20)
  rwa [fitTo_end nodes (Nat.le_refl _)] at h
/-- A rule more. -/
theorem find_more {w : List Ru} (hg : GoodT w) {r : Ru} (hr : r.Pre) (hl : (ins w r).length ≠ w.length) (x : Int) :
    tfind (ins w r) x = if r.holds x = true ∧ ((tfind w x).2 = false ∨ (tfind w x).1.n < r.n) then (r, true) else tfind w x := by
  obtain ⟨hm, hne⟩ := ins_length_more hg hl
  obtain ⟨h1, h2⟩ := tfind_best w x
  generalize tfind w x = p at *
  refine (ins_good hg hr).best ?_
  obtain ⟨s, b⟩ := p
  split
  · rename_i hc
    refine ⟨(fun h => by cases h), fun _ => ⟨(hm r).2 (.inr rfl), hc.1, fun t ht hth => ?_⟩⟩
    rcases (hm t).1 ht with ht | rfl
    · cases b with
      | false => have := (h1 rfl).2 t ht; rw [hth] at this; cases this
      | true =>
        have := (h2 rfl).2.2 t ht hth
        have : s.n < r.n := by rcases hc.2 with h | h; cases h; exact h
        show t.n ≤ r.n
        simp only at *
        omega
    · exact Int.le_refl _
  · rename_i hc
    refine ⟨fun hb => ⟨(h1 hb).1, fun t ht => ?_⟩, fun hb => ⟨(hm _).2 (.inl (h2 hb).1), (h2 hb).2.1, fun t ht hth => ?_⟩⟩
    · rcases (hm t).1 ht with ht | rfl
      · exact (h1 hb).2 t ht
      · cases hh : t.holds x with
        | false => rfl
        | true => exact absurd ⟨hh, .inl hb⟩ hc
    · rcases (hm t).1 ht with ht | rfl
      · exact (h2 hb).2.2 t ht hth
      · rcases Int.lt_or_le s.n t.n with h | h
        · exact absurd ⟨hth, .inr h⟩ hc
        · exact h
end Go.Th

/-! ### TableMore -/
namespace Go.Th
def host (a : Int) : Ru := ⟨a, 32, 2, 0⟩
/-- The rules of other prefixes. -/
def others (a : Int) (l : List Ru) : List Ru := l.filter fun t => decide (t.a ≠ a ∨ t.n ≠ 32)
theorem others_mem {a : Int} {l : List Ru} {t : Ru} (h : t ∈ others a l) : t ∈ l := (List.mem_filter.1 h).1
theorem others_step (a : Int) {l : List Ru} {k : Nat} {t : Ru} (h : l[k]? = some t) : others a (l.take (k + 1)) = others a (l.take k) ++ if t.a ≠ a ∨ t.n ≠ 32 then [t] else [] := by
  unfold others
  rw [List.take_add_one, h, List.filter_append]
  congr 1
  simp only [Option.toList_some, List.filter_cons, List.filter_nil, decide_eq_true_eq]
theorem sh_32 : sh 32 = 0 := by decide
theorem head_32 (a : Int) : head a 32 = a.toNat := by unfold head; rw [sh_32]; simp
theorem host_fit (a : Int) (ha : 0 ≤ a) : (host a).fit 9 = host a := by
  unfold host Ru.fit lead
  simp [sh_32, show (32 : Int) % 33 = 32 by decide]
  omega
theorem host_pre {a : Int} (ha : 0 ≤ a ∧ a ≤ 4294967295) : (host a).Pre :=
  ⟨⟨ha, (show (-9223372036854775808 : Int) ≤ 32 ∧ (32 : Int) ≤ 9223372036854775807 by omega), (show (-9223372036854775808 : Int) ≤ 2 ∧ (2 : Int) ≤ 9223372036854775807 by omega), (show (-9223372036854775808 : Int) ≤ 0 ∧ (0 : Int) ≤ 9223372036854775807 by omega)⟩, (show (0 : Int) ≤ 32 by omega), (show (32 : Int) ≤ 32 by omega), by show a.toNat % 2 ^ sh 32 = 0; rw [sh_32]; omega⟩
theorem host_holds {a x : Int} (ha : 0 ≤ a) (hx : 0 ≤ x) : (host a).holds x = decide (a = x) := by
  unfold Ru.holds Th.holds host
  simp only [head_32]
  rw [decide_eq_decide]
  omega
def outOf (p : Option Ru) (r : Ru) : Bool := match p with
  | some q => decide (r.cmp q ≠ 1)
  | none => false
def tmayGo (nodes : Int) : Option Ru → List Ru → Int
  | _, [] => 0
  | p, r :: l => if r.may nodes ≠ 0 then r.may nodes else if outOf p r = true then 11 else tmayGo nodes (some r) l
def tmay (l : List Ru) (nodes : Int) : Int := tmayGo nodes none l
/-- The rule ahead of place k. -/
def aheadOf (l : List Ru) (k : Nat) : Option Ru := if k = 0 then none else l[k - 1]?
theorem tmay_bad {l : List Ru} {k : Nat} {r : Ru} {nodes : Int} (h : l[k]? = some r) (he : r.may nodes ≠ 0) (p : Option Ru) : tmayGo nodes p (l.drop k) = r.may nodes := by
  obtain ⟨hl, rfl⟩ := List.getElem?_eq_some_iff.1 h
  rw [List.drop_eq_getElem_cons hl, tmayGo, if_pos he]
theorem tmay_first {l : List Ru} {r : Ru} {nodes : Int} (h : l[0]? = some r) (he : r.may nodes = 0) : tmayGo nodes (aheadOf l 0) (l.drop 0) = tmayGo nodes (aheadOf l 1) (l.drop 1) := by
  obtain ⟨hl, rfl⟩ := List.getElem?_eq_some_iff.1 h
  have e : aheadOf l 1 = some l[0] := by unfold aheadOf; simp [hl]
  rw [List.drop_eq_getElem_cons hl, tmayGo, if_neg (by simp [he]), e, if_neg (by simp [aheadOf, outOf])]
theorem tmay_order {l : List Ru} {k : Nat} {r q : Ru} {nodes : Int} (h : l[k + 1]? = some r) (hq : l[k]? = some q) (he : r.may nodes = 0) (hc : r.cmp q ≠ 1) : tmayGo nodes (aheadOf l (k + 1)) (l.drop (k + 1)) = 11 := by
  obtain ⟨hl, rfl⟩ := List.getElem?_eq_some_iff.1 h
  have e : aheadOf l (k + 1) = some q := by unfold aheadOf; simp [hq]
  rw [List.drop_eq_getElem_cons hl, e, tmayGo, if_neg (by simp [he]), if_pos (by show decide (l[k + 1].cmp q ≠ 1) = true; exact decide_eq_true hc)]
theorem tmay_on {l : List Ru} {k : Nat} {r q : Ru} {nodes : Int} (h : l[k + 1]? = some r) (hq : l[k]? = some q) (he : r.may nodes = 0) (hc : r.cmp q = 1) : tmayGo nodes (aheadOf l (k + 1)) (l.drop (k + 1)) = tmayGo nodes (aheadOf l (k + 1 + 1)) (l.drop (k + 1 + 1)) := by
  obtain ⟨hl, rfl⟩ := List.getElem?_eq_some_iff.1 h
  have e : aheadOf l (k + 1) = some q := by unfold aheadOf; simp [hq]
  have e2 : aheadOf l (k + 1 + 1) = some l[k + 1] := by unfold aheadOf; simp [hl]
  rw [List.drop_eq_getElem_cons hl, e, tmayGo, if_neg (by simp [he]), e2, if_neg (by simp [outOf, hc])]
/-- What rows of rules of unlike prefixes are put to. -/
theorem fold_mem {nodes : Int} : ∀ (l out : List Ru), GoodT out → (∀ r ∈ l, r.Pre) → Fitted nodes l → (∀ t ∈ out, ∀ r ∈ l, t.cmp r ≠ 0) → l.Pairwise (fun r s => r.cmp s ≠ 0) →
    GoodT (l.foldl (fun out r => ins out (r.fit nodes)) out) ∧ ∀ t, t ∈ l.foldl (fun out r => ins out (r.fit nodes)) out ↔ t ∈ out ∨ t ∈ l
  | [], out, hg, _, _, _, _ => ⟨hg, by simp⟩
  | r :: l, out, hg, hp, hf, hne, hpw => by
    rw [List.foldl_cons, hf r (by simp)]
    obtain ⟨p1, p2⟩ := List.pairwise_cons.1 hpw
    have hmem : ∀ t, t ∈ ins out r ↔ t ∈ out ∨ t = r := by
      rcases ins_cases hg r with ⟨_, t, ht, hz⟩ | ⟨e, _⟩
      · exact absurd hz (hne t ht r (by simp))
      · refine (ins_length_more hg ?_).1
        rw [e, List.length_append, List.length_cons, List.length_take, List.length_drop]
        have := place_le out r
        omega
    obtain ⟨h1, h2⟩ := fold_mem l (ins out r) (ins_good hg (hp r (by simp))) (fun s hs => hp s (by simp [hs])) (fun s hs => hf s (by simp [hs])) (fun t ht s hs => by
      rcases (hmem t).1 ht with ht | rfl
      · exact hne t ht s (by simp [hs])
      · exact p1 s hs) p2
    refine ⟨h1, fun t => ?_⟩
    rw [h2, hmem, List.mem_cons, or_assoc]
theorem hosts {ws : List Ru} (hg : GoodT ws) (hf : Fitted 9 ws) (hl : ws.length ≤ 19) {a x : Int} (ha : 0 ≤ a ∧ a ≤ 4294967295) (hx : 0 ≤ x ∧ x ≤ 4294967295) :
    GoodT (fitT (host a :: others a ws) 9) ∧ tfind (fitT (host a :: others a ws) 9) a = (host a, true) ∧ tnext (fitT (host a :: others a ws) 9) a = (0, false) ∧ (a = x ∨ tfind (fitT (host a :: others a ws) 9) x = tfind (others a ws) x) := by
  have hsub : (others a ws).Sublist ws := List.filter_sublist
  have hgo : GoodT (others a ws) := ⟨fun r hr => hg.pre r (others_mem hr), List.Pairwise.sublist hsub hg.sorted⟩
  have hne : ∀ r ∈ others a ws, (host a).cmp r ≠ 0 := by
    intro r hr hz
    have h1 := (Ru.cmp_zero _ _).1 hz
    have h2 := (List.mem_filter.1 hr).2
    have h3 := of_decide_eq_true h2
    have e1 : a = r.a := h1.1
    have e2 : (32 : Int) = r.n := h1.2
    rcases h3 with h | h
    · exact h e1.symm
    · exact h e2.symm
  have hlen : (host a :: others a ws).length ≤ 20 := by have := hsub.length_le; simp only [List.length_cons]; omega
  obtain ⟨h1, h2⟩ := fold_mem (nodes := 9) (host a :: others a ws) [] GoodT.nil (fun r hr => by
      rcases List.mem_cons.1 hr with rfl | hr
      · exact host_pre ha
      · exact hgo.pre r hr) (fun r hr => by
      rcases List.mem_cons.1 hr with rfl | hr
      · exact host_fit a ha.1
      · exact hf r (others_mem hr)) (by simp) (List.pairwise_cons.2 ⟨hne, hgo.sorted.imp (fun h e => by omega)⟩)
  have hm : fitT (host a :: others a ws) 9 = (host a :: others a ws).foldl (fun out r => ins out (r.fit 9)) [] := by unfold fitT; rw [List.take_of_length_le hlen]
  rw [hm]
  generalize (host a :: others a ws).foldl (fun out r => ins out (r.fit 9)) [] = more at *
  have hmem : ∀ t, t ∈ more ↔ t = host a ∨ t ∈ others a ws := fun t => by rw [h2]; simp
  have hfa : tfind more a = (host a, true) := h1.best ⟨(fun h => by cases h), fun _ => ⟨(hmem _).2 (.inl rfl), by rw [host_holds ha.1 ha.1]; simp, fun t ht _ => (h1.pre t ht).n1⟩⟩
  refine ⟨h1, hfa, ?_, ?_⟩
  · unfold tnext; rw [hfa]; rfl
  · by_cases e : a = x
    · exact .inl e
    · right
      have hh : (host a).holds x = false := by rw [host_holds ha.1 hx.1]; simpa using e
      obtain ⟨b1, b2⟩ := tfind_best (others a ws) x
      refine h1.best ⟨fun hb => ⟨(b1 hb).1, fun t ht => ?_⟩, fun hb => ⟨(hmem _).2 (.inr (b2 hb).1), (b2 hb).2.1, fun t ht hth => ?_⟩⟩
      · rcases (hmem t).1 ht with rfl | ht
        · exact hh
        · exact (b1 hb).2 t ht
      · rcases (hmem t).1 ht with rfl | ht
        · rw [hh] at hth; cases hth
        · exact (b2 hb).2.2 t ht hth
end Go.Th

/-! ### Reach -/
namespace Go.Th
open Go.RowKit
/-- Whatever is there stays. -/
abbrev Grow (w w' : World) : Prop := Reach w.heap.size w w'
attribute [go_sem] Grow
theorem Grow.refl (w : World) : Grow w w := Reach.refl _ _
theorem Grow.trans (x y z : World) (h : Grow x y) (h2 : Grow y z) : Grow x z := Reach.of (h.below.trans (h2.below.mono h.below.size))
set_option linter.unusedVariables false
section
variable {P : Program} {ops : Array Oper} {rest : List Oper} {o : Oper} {a : Act} {C : World → Prop} {Q : Act → Prop}
theorem wp_region_reach {id : Nat} {Q : Exit → Act → World → Prop} {a : Act} {w : World} {l : List Oper} (hm : P.follows .mixedOrders = true) (hB : Region.lexB .any l.toArray = true)
    (h : wpQuiet P l.toArray (Reach w.heap.size w) (fun a' => ∀ w', Reach w.heap.size w w' → Q .normal a' w') l a) : (Code.region id l.toArray true).wp P Q a w :=
  wp_region_quiet (C := Reach w.heap.size w) hm hB (.of (bdrew1 w)) (by simpa using h)
theorem Calls.reach {w : World} {q : Step w.heap.size w} {f : FuncId} {args : Array Value} {v : Value} (h : Calls P f args q.w fun e w' => e = .returned v ∧ Below q.w.heap.size q.w w') :
    Calls P f args q.w fun e w'' => e = .returned v ∧ ∃ p : Step w.heap.size w, w'' = p.w :=
  h.mono fun e w' ⟨h1, h2⟩ => ⟨h1, ⟨w', q.h.trans (h2.mono q.h.size)⟩, rfl⟩
theorem Calls.reach_same {w : World} {q : Step w.heap.size w} {f : FuncId} {args : Array Value} {v : Value} (h : Calls P f args q.w fun e w' => e = .returned v ∧ q.w = w') :
    Calls P f args q.w fun e w'' => e = .returned v ∧ ∃ p : Step w.heap.size w, w'' = p.w :=
  h.mono fun e w' ⟨h1, h2⟩ => ⟨h1, q, h2.symm⟩
theorem RdS.reach {α : Type} {f : α → Value} {w : World} {B : Nat} {A : Option Addr} {n c : Nat} {xs : List α} (h : RdS f w B A n c xs) : RdC f (Reach w.heap.size w) B A n c xs := ⟨fun _ hw => h.step hw.below⟩
end
section
variable {P : Program} {ops : Array Oper} {C : World → Prop} {Q : Act → Prop} {rest : List Oper} {o : Oper} {a : Act}
theorem wq_cut_hm (hw : Region.wanted o (yielded ops a.tmps) = true) (T : TypeId) (s : Operand) {E bytes : Nat} {z : Value} (el : El P T E z bytes)
    {α : Type} {f : α → Value} {A : Option Addr} {n c : Nat} (hs : a.eval s = .slice A n c) {B : Nat} {xs : List α} (hr : RdC f C B A n c xs) {w0 : World} (hC0 : C w0)
    (hi mx : Operand) (ho : o.op = .slice T s Option.none (some hi) (some mx)) {k k' : IntKind} {I J : Int} (hhi : a.eval hi = .int k I) (hmx : a.eval mx = .int k' J) (H : Nat) (hH : I = (H : Int) ∧ J = (H : Int) ∧ H ≤ n)
    (h : ∀ A', RdC f C B A' H H (xs.take H) → wpQuiet P ops C Q rest (a.put o.dst (.slice A' H H))) : wpQuiet P ops C Q (o :: rest) a := by
  obtain ⟨rfl, rfl, hH⟩ := hH
  have hc := (hr.rd w0 hC0).cap
  refine wq_cutS hw T s _ _ _ ho el hs (L := 0) (H := H) (M := H) (fun w => ?_) hr (Nat.zero_le _) (Nat.le_refl _) hH fun A' hA => h A' hA
  simp only [Option.map_some, Option.map_none, hhi, hmx]
  exact bounds_hm k k' (Nat.le_refl _) (by omega)
theorem onq_sl (s : Operand) {d T lo hi mx ty pos af g} (h : wpQuiet P ops C Q (⟨d, .slice T s lo hi mx, ty, pos, af, g⟩ :: rest) a) : wpQuiet P ops C Q (⟨d, .slice T s lo hi mx, ty, pos, af, g⟩ :: rest) a := h
theorem onq_cv (x : Operand) {d src dst ty pos af g} (h : wpQuiet P ops C Q (⟨d, .convert src dst x, ty, pos, af, g⟩ :: rest) a) : wpQuiet P ops C Q (⟨d, .convert src dst x, ty, pos, af, g⟩ :: rest) a := h
theorem onq_ix (s : Operand) {d T i ty pos af g} (h : wpQuiet P ops C Q (⟨d, .indexAddr T s i, ty, pos, af, g⟩ :: rest) a) : wpQuiet P ops C Q (⟨d, .indexAddr T s i, ty, pos, af, g⟩ :: rest) a := h
end
section
variable {P : Program} {ops : Array Oper} {rest : List Oper} {o : Oper} {a : Act} {Q : Exit → Act → World → Prop} {w : World}
/-- s[:h], the place told. -/
theorem wl_cut_hx (hw : Region.wanted o (yielded ops a.tmps) = true) (T : TypeId) (s : Operand) {E bytes : Nat} {z : Value} (el : El P T E z bytes)
    {A : Option Addr} {n c : Nat} (hs : a.eval s = .slice A n c) (hi : Operand) (ho : o.op = .slice T s Option.none (some hi) Option.none) {k : IntKind} {I : Int} (hhi : a.eval hi = .int k I) (H : Nat) (hH : I = (H : Int) ∧ H ≤ n) (hc : n ≤ c)
    (h : wpList P ops Q rest (a.put o.dst (.slice (cutA A 0 c) H c)) w) : wpList P ops Q (o :: rest) a w := by
  obtain ⟨rfl, hH⟩ := hH
  refine wl_run hw (v := .slice (cutA A 0 c) (H - 0) (c - 0)) (w' := w) ?_ h
  have hb : (Instr.sliceBounds true n c Option.none (some (.int k (H : Int))) Option.none).run P w = .ok (0, H, c) w := bounds_h k (by omega)
  simp only [execOp, ho, hs, hhi, Option.map_some, Option.map_none, Sem.run_bind, Instr.sliceAt, run_underlying el.ht, Instr.slice, hb, el.size, Result.andThen, Sem.run_pure, Nat.mul_one, cutA]
end
section
variable {P : Program} {ops : Array Oper} {rest : List Oper} {o : Oper} {a : Act} {Q : Exit → Act → World → Prop} {w : World}
/-- &s[i] of a row of the call's own, of one-cell elements. -/
theorem wl_placeS (hw : Region.wanted o (yielded ops a.tmps) = true) (T : TypeId) (s i : Operand) (ho : o.op = .indexAddr T s i) {E bytes : Nat} {z : Value} (el : El P T E z bytes)
    {g n c : Nat} {kk : IntKind} {I : Int} (hs : a.eval s = .slice (some ⟨g, 0, none⟩) n c) (hi : a.eval i = .int kk I) (j : Nat) (hj : I = (j : Int) ∧ j < n)
    (h : wpList P ops Q rest (a.put o.dst (.pointer (some ⟨g, j, none⟩))) w) : wpList P ops Q (o :: rest) a w := by
  obtain ⟨rfl, hj⟩ := hj
  exact wl_index_own hw T s i ho el.ht el.size hs hi (by omega) (by omega) (by rw [Int.toNat_natCast, Nat.mul_one]; exact h)
end
end Go.Th

/-! ### RuleAt -/
namespace Go.Th
open Go.RowKit
set_option linter.unusedVariables false
theorem Ru.one (r : Ru) : ∀ u ∈ r.cs, u.oneCell' = true := by
  intro u hu
  simp only [Ru.cs, List.mem_cons, List.not_mem_nil, or_false] at hu
  rcases hu with rfl | rfl | rfl | rfl <;> rfl
section
variable {P : Program} {ops : Array Oper} {rest : List Oper} {o : Oper} {a : Act} {Q : Exit → Act → World → Prop} {w : World}
/-- A rule is read. -/
theorem wr_load (hw : Region.wanted o (yielded ops a.tmps) = true) (T : TypeId) (x : Operand) (ho : o.op = .load T x) (st : St P T 4) {b j : Nat} {r : Ru} (hx : a.eval x = .pointer (some ⟨b, j, none⟩)) (hc : Hid (∀ i v, r.cs[i]? = some v → w.cell? ⟨b, j + i, none⟩ = some v))
    (h : wpList P ops Q rest (a.put o.dst (.agg #[.int .u32 r.a, .int .i64 r.n, .int .i64 r.act, .int .i64 r.next])) w) : wpList P ops Q (o :: rest) a w :=
  wm_load hw T x ho st hx (Ru.cs_length r) hc.out h
/-- A variable that holds a rule is read. -/
theorem wr_box (hw : Region.wanted o (yielded ops a.tmps) = true) (T : TypeId) (x : Operand) (ho : o.op = .load T x) (st : St P T 4) {g : Nat} {t : TypeId} {r : Ru} (hx : a.eval x = .pointer (some ⟨g, 0, none⟩)) (hb : Box w g t r.cs.toArray)
    (h : wpList P ops Q rest (a.put o.dst (.agg #[.int .u32 r.a, .int .i64 r.n, .int .i64 r.act, .int .i64 r.next])) w) : wpList P ops Q (o :: rest) a w :=
  wb_load hw T x ho st hx hb rfl h
/-- It is set. -/
theorem wr_store (hw : Region.wanted o (yielded ops a.tmps) = true) (T : TypeId) (x y : Operand) (ho : o.op = .store T x y) (st : St P T 4) {g : Nat} {t : TypeId} {r s : Ru} (hx : a.eval x = .pointer (some ⟨g, 0, none⟩)) (hy : a.eval y = .agg #[.int .u32 s.a, .int .i64 s.n, .int .i64 s.act, .int .i64 s.next])
    (hb : Box w g t r.cs.toArray) (h : ∀ w', Box w' g t s.cs.toArray → w.grownBy w' (some g) → wpList P ops Q rest (a.put o.dst undef) w') : wpList P ops Q (o :: rest) a w :=
  wb_store hw T x y ho st hx hy hb rfl rfl (by simp [Value.oneCell']) h
end
theorem Box.rule {w : World} {g : Nat} {t : TypeId} {r : Ru} (h : Box w g t r.cs.toArray) : w.cell? ⟨g, 0, none⟩ = some (.int .u32 r.a) ∧ w.cell? ⟨g, 1, none⟩ = some (.int .i64 r.n) ∧ w.cell? ⟨g, 2, none⟩ = some (.int .i64 r.act) ∧ w.cell? ⟨g, 3, none⟩ = some (.int .i64 r.next) :=
  ⟨h.cell 0, h.cell 1, h.cell 2, h.cell 3⟩
section
variable {P : Program} {ops : Array Oper} {rest : List Oper} {o : Oper} {a : Act} {C : World → Prop} {Q : Act → Prop}
/-- s[i] of a row of rules: the place. -/
theorem wqr_at (hw : Region.wanted o (yielded ops a.tmps) = true) (T : TypeId) (s i : Operand) (ho : o.op = .indexAddr T s i) {E bytes : Nat} {z : Value} (el : ElM P T E z bytes 4)
    {A : Option Addr} {n c : Nat} {k : IntKind} {I : Int} (hs : a.eval s = .slice A n c) (hi : a.eval i = .int k I) (h0 : 0 ≤ I) (h1 : I < n) {w0 : World} (hC0 : C w0)
    {B : Nat} {xs : List Ru} (hr : ∀ w, C w → RdM Ru.cs w B A n c xs)
    (h : ∀ (b j : Nat) (x : Ru), Hid (xs[I.toNat]? = some x) → Hid (∀ w, C w → ∀ i v, x.cs[i]? = some v → w.cell? ⟨b, j + i, none⟩ = some v) → wpQuiet P ops C Q rest (a.put o.dst (.pointer (some ⟨b, j, none⟩)))) :
    wpQuiet P ops C Q (o :: rest) a := by
  have hl : I.toNat < xs.length := by have := (hr w0 hC0).len; omega
  obtain ⟨b, off, hA, hb, hc⟩ := (hr w0 hC0).cells Ru.cs_length (List.getElem?_eq_getElem hl) (by omega)
  subst hA
  refine wq_run hw (v := .pointer (some ⟨b, off + I.toNat * 4, none⟩)) (fun w hC => ?_) ?_
  · have := run_indexAt (P := P) (w := w) T el.ht (el.size w) ⟨b, off, none⟩ n c k I h0 h1
    rw [Addr.add_lit] at this
    simp only [execOp, ho, hs, hi, Sem.run_bind, this, Result.andThen, Sem.run_pure]
  · refine h b _ xs[I.toNat] (List.getElem?_eq_getElem hl) fun w hC => ?_
    obtain ⟨b', off', hA', _, hc'⟩ := (hr w hC).cells Ru.cs_length (List.getElem?_eq_getElem hl) (by omega)
    injection hA' with hA'
    injection hA' with e1 e2
    subst e1 e2
    exact hc'
theorem wqr_load (hw : Region.wanted o (yielded ops a.tmps) = true) (T : TypeId) (x : Operand) (ho : o.op = .load T x) (st : St P T 4) {b j : Nat} {r : Ru} (hx : a.eval x = .pointer (some ⟨b, j, none⟩)) (hc : Hid (∀ w, C w → ∀ i v, r.cs[i]? = some v → w.cell? ⟨b, j + i, none⟩ = some v))
    (h : wpQuiet P ops C Q rest (a.put o.dst (.agg #[.int .u32 r.a, .int .i64 r.n, .int .i64 r.act, .int .i64 r.next]))) : wpQuiet P ops C Q (o :: rest) a :=
  wq_run hw (fun w hC => by simp only [execOp, ho, hx, Instr.loadAt, Instr.sureAddr, Sem.run_bind, Sem.run_pure, Result.andThen_ok, run_loadVar_at st (Ru.cs_length r) (hc.out w hC)]; rfl) h
theorem wqr_box (hw : Region.wanted o (yielded ops a.tmps) = true) (T : TypeId) (x : Operand) (ho : o.op = .load T x) (st : St P T 4) {g : Nat} {t : TypeId} {r : Ru} (hx : a.eval x = .pointer (some ⟨g, 0, none⟩)) (hb : ∀ w, C w → Box w g t r.cs.toArray)
    (h : wpQuiet P ops C Q rest (a.put o.dst (.agg #[.int .u32 r.a, .int .i64 r.n, .int .i64 r.act, .int .i64 r.next]))) : wpQuiet P ops C Q (o :: rest) a := by
  obtain ⟨fs, hu⟩ := st.under
  exact wq_run hw (fun w hC => by simp only [execOp, ho, hx, Instr.loadAt, Instr.sureAddr, Sem.run_bind, Sem.run_pure, Result.andThen_ok, run_loadVar_row w g t T r.cs.toArray (0, 0) _ (hb w hC).at_ hu rfl st.size]; rfl) h
theorem RdM.reach {α : Type} {f : α → List Value} {w : World} {B : Nat} {A : Option Addr} {n c : Nat} {xs : List α} (h : RdM f w B A n c xs) : ∀ w', Reach w.heap.size w w' → RdM f w' B A n c xs := fun _ hw => h.step hw.below
theorem Box.reach {w : World} {g : Nat} {t : TypeId} {cs : Array Value} (h : Box w g t cs) : ∀ w', Reach w.heap.size w w' → Box w' g t cs := fun _ hw => h.step hw.below
theorem Box.reachC {w : World} {g : Nat} {t : TypeId} {r : Ru} (h : Box w g t r.cs.toArray) : (∀ q : Step w.heap.size w, q.w.cell? ⟨g, 0, none⟩ = some (.int .u32 r.a)) ∧ (∀ q : Step w.heap.size w, q.w.cell? ⟨g, 1, none⟩ = some (.int .i64 r.n)) ∧ (∀ q : Step w.heap.size w, q.w.cell? ⟨g, 2, none⟩ = some (.int .i64 r.act)) ∧ (∀ q : Step w.heap.size w, q.w.cell? ⟨g, 3, none⟩ = some (.int .i64 r.next)) :=
  ⟨fun q => (h.step q.h).rule.1, fun q => (h.step q.h).rule.2.1, fun q => (h.step q.h).rule.2.2.1, fun q => (h.step q.h).rule.2.2.2⟩
end
section
variable {P : Program} {ops : Array Oper} {rest : List Oper} {o : Oper} {a : Act} {C : World → Prop} {Q : Act → Prop} {α : Type} {f : α → List Value} {k : Nat}
theorem wqm_cutS (hf : ∀ x, (f x).length = k) (hw : Region.wanted o (yielded ops a.tmps) = true) (T : TypeId) (s : Operand) (lo hi mx : Option Operand) (ho : o.op = .slice T s lo hi mx) {E bytes : Nat} {z : Value} (el : ElM P T E z bytes k)
    {A : Option Addr} {n c : Nat} (hs : a.eval s = .slice A n c) {L H M : Nat}
    (hb : ∀ w, (Instr.sliceBounds true n c (lo.map a.eval) (hi.map a.eval) (mx.map a.eval)).run P w = .ok (L, H, M) w)
    {B : Nat} {xs : List α} (hr : ∀ w, C w → RdM f w B A n c xs) (hLH : L ≤ H) (hHM : H ≤ M) (hHn : H ≤ n)
    (h : ∀ A', (∀ w, C w → RdM f w B A' (H - L) (M - L) ((xs.take H).drop L)) → wpQuiet P ops C Q rest (a.put o.dst (.slice A' (H - L) (M - L)))) :
    wpQuiet P ops C Q (o :: rest) a := by
  refine wq_run hw (v := .slice (if M = L then A else A.map (·.add (L * k))) (H - L) (M - L)) (fun w hC => ?_) (h _ fun w hC => (hr w hC).cut hf L H M hLH hHM hHn el.pos)
  simp only [execOp, ho, hs, Sem.run_bind, Instr.sliceAt, run_underlying el.ht, Instr.slice, hb w, el.size, Result.andThen, Sem.run_pure]
section
variable (hf : ∀ x, (f x).length = k) (hw : Region.wanted o (yielded ops a.tmps) = true) (T : TypeId) (s : Operand) {E bytes : Nat} {z : Value} (el : ElM P T E z bytes k)
    {A : Option Addr} {n c : Nat} (hs : a.eval s = .slice A n c) {B : Nat} {xs : List α} (hr : ∀ w, C w → RdM f w B A n c xs) {w0 : World} (hC0 : C w0)
include hf hw el hs hr hC0
theorem wqm_cut_l (lo : Operand) (ho : o.op = .slice T s (some lo) Option.none Option.none) {kk : IntKind} {I : Int} (hlo : a.eval lo = .int kk I) (L : Nat) (hL : I = (L : Int) ∧ L ≤ n)
    (h : ∀ A', (∀ w, C w → RdM f w B A' (n - L) (c - L) (xs.drop L)) → wpQuiet P ops C Q rest (a.put o.dst (.slice A' (n - L) (c - L)))) : wpQuiet P ops C Q (o :: rest) a := by
  obtain ⟨rfl, hL⟩ := hL
  refine wqm_cutS hf hw T s _ _ _ ho el hs (L := L) (H := n) (M := c) (fun w => ?_) hr hL (hr w0 hC0).cap (Nat.le_refl _) fun A' hA => h A' ?_
  · simp only [Option.map_some, Option.map_none, hlo]
    exact bounds_l kk hL
  · rw [List.take_of_length_le (Nat.le_of_eq (hr w0 hC0).len)] at hA
    exact hA
theorem wqm_cut_h (hi : Operand) (ho : o.op = .slice T s Option.none (some hi) Option.none) {kk : IntKind} {I : Int} (hhi : a.eval hi = .int kk I) (H : Nat) (hH : I = (H : Int) ∧ H ≤ n)
    (h : ∀ A', (∀ w, C w → RdM f w B A' H c (xs.take H)) → wpQuiet P ops C Q rest (a.put o.dst (.slice A' H c))) : wpQuiet P ops C Q (o :: rest) a := by
  obtain ⟨rfl, hH⟩ := hH
  have hc := (hr w0 hC0).cap
  refine wqm_cutS hf hw T s _ _ _ ho el hs (L := 0) (H := H) (M := c) (fun w => ?_) hr (Nat.zero_le _) (by omega) hH fun A' hA => h A' hA
  simp only [Option.map_some, Option.map_none, hhi]
  exact bounds_h kk (by omega)
end
end
end Go.Th

/-! ### Table -/
namespace Go.Proofs.Ytdmkiejaejlajaa
open Go.RowKit Go.Th
set_option linter.unusedVariables false
/-- A rule and a yes or no come back. -/
def RetRule (p : Ru × Bool) (w : World) (e : Ending) (w' : World) : Prop := e = .returned (.tuple #[.agg #[.int .u32 p.1.a, .int .i64 p.1.n, .int .i64 p.1.act, .int .i64 p.1.next], .bool p.2]) ∧ Below w.heap.size w w'
/-- The loop's relation: k rules were looked at. -/
def FindRel (x : Int) (l : List Ru) (n : Nat) (w : World) (fd i : Value) (wr : World) : Prop :=
  ∃ (k : Nat) (best : Ru) (b : Bool), k ≤ n ∧ i = .int .i64 k ∧ fd = .bool b ∧ Hid (tfind (l.take k) x = (best, b)) ∧ Box wr (w.heap.size + 1) 40 best.cs.toArray ∧ Box wr w.heap.size 40 Ru.zero.cs.toArray ∧ Below w.heap.size w wr
set_option maxHeartbeats 1000000 in
theorem find_any (A : Option Addr) (n c : Nat) (l : List Ru) (x : Int) (w : World) (hm : n ≤ 9223372036854775807) (B : Nat) (hr : RdM Ru.cs w B A n c l) (hok : ∀ r ∈ l, r.Ok) (hx : 0 ≤ x ∧ x ≤ 4294967295) :
    Calls Try.prog 28 #[.slice A n c, .int .u32 x] w (RetRule (tfind l x) w) := by
  have Hok := Lib.hid hok
  have Hx := Lib.hid hx
  clear hok
  go_enter Try.func28, Try.ntmps28
  go_wp2
  go_step3
  go_wp2
  go_step3
  go_wp2
  go_loopw [7, 12] (fun fd i wr => FindRel x l n w fd i wr) (fun _ i _ => n - (intOf i).toNat)
  case atStart => exact ⟨0, Ru.zero, false, by omega, rfl, rfl, rfl, (by have := Box.new (w.alloc (.cells Ru.zero.cs.toArray 40)) Ru.zero.cs.toArray 40; simpa [Ru.cs, Ru.zero] using this), (by have := (Box.new w Ru.zero.cs.toArray 40).alloc (.cells Ru.zero.cs.toArray 40); simpa [Ru.cs, Ru.zero] using this), (by repeat (first | exact Below.refl _ _ | refine Below.drew ?_ | refine Below.alloc ?_ (by first | (simp; done) | (simp; omega)) _ | refine Below.setCell ?_ (by first | (simp; done) | (simp; omega)) _ | assumption))⟩
  case round =>
    obtain ⟨k, best, b, hk, rfl, rfl, hf, hbest, hzero, hb⟩ := hrel
    have hrk : RdM Ru.cs wr B A n c l := hr.step hb
    by_cases hlt : k < n
    · obtain ⟨r, hrk0⟩ : ∃ r, l[k]? = some r := ⟨l[k]'(by rw [hr.len]; omega), List.getElem?_eq_getElem _⟩
      have hro := Hok.out r (List.mem_of_getElem? hrk0)
      have hsn := tfind_snoc x hrk0
      rw [hf.out] at hsn
      have Hsn := Lib.hid hsn
      have Hrk := Lib.hid hrk0
      have Hra := Lib.hid hro.a
      have Hrn := Lib.hid hro.n
      clear hsn hrk0 hro
      have hl1 := hbest.lt
      have c0 : wr.cell? ⟨w.heap.size + 1, 1, none⟩ = some (.int .i64 best.n) := hbest.cell 1
      have hways : (holds r.a r.n x = false ∧ fstep x (best, b) r = (best, b)) ∨ (holds r.a r.n x = true ∧ b = true ∧ r.n ≤ best.n ∧ fstep x (best, b) r = (best, b)) ∨ (holds r.a r.n x = true ∧ b = true ∧ ¬ r.n ≤ best.n ∧ fstep x (best, b) r = (r, true)) ∨ (holds r.a r.n x = true ∧ b = false ∧ fstep x (best, b) r = (r, true)) := by
        unfold fstep Ru.holds
        cases h1 : holds r.a r.n x <;> cases b <;> simp
        by_cases h2 : r.n ≤ best.n
        · left; simp [h2]; intro h; omega
        · right; simp [h2]; omega
      rcases hways with ⟨hh, h3⟩ | ⟨hh, rfl, h2, h3⟩ | ⟨hh, rfl, h2, h3⟩ | ⟨hh, rfl, h3⟩
      all_goals
        rw [h3] at Hsn
        have Hh := Lib.hid hh
        clear hh h3
        go_wp2_with (first
          | ((with_reducible refine on_index (.tmp 10) ?_); refine wm_at Ru.cs_length rfl _ _ _ rfl el_rule rfl rfl (by omega) (by omega) hrk ?_; intro b1 j1 r1 hr1 hb1 hc1; have hxx : r = r1 := (by have e := hr1.out; rw [Int.toNat_natCast, Hrk.out] at e; injection e); subst hxx)
          | ((with_reducible refine on_load (.tmp 14) ?_); refine wr_load rfl _ _ rfl st_rule rfl hc1 ?_)
          | (go_at_call 38; refine (holds_any _ _ _ _ Hra.out Hrn.out Hx.out).mono ?_; rintro e w2 ⟨rfl, rfl⟩; rw [Hh.out])
          | ((with_reducible refine on_store ?_); refine wr_store (r := best) rfl _ _ _ rfl st_rule rfl rfl (hbest.alloc _) ?_; intro w3 hbest3 hg3))
      · go_roundw
        case rel => exact ⟨k + 1, best, b, by omega, by go_num, rfl, Hsn.out, hbest.alloc _, hzero.alloc _, hb.alloc hb.size _⟩
        case measure => simp [intOf]; omega
      · go_roundw
        case rel => exact ⟨k + 1, best, true, by omega, by go_num, rfl, Hsn.out, hbest.alloc _, hzero.alloc _, hb.alloc hb.size _⟩
        case measure => simp [intOf]; omega
      all_goals
        go_roundw
        case rel => exact ⟨k + 1, r, true, by omega, by go_num, rfl, Hsn.out, hbest3, (hzero.alloc _).grown hg3 (by intro e; injection e with e; omega), (hb.alloc hb.size _).trans (below_of_grown hg3 (by intro g e; injection e with e; omega) (by simp; have := hb.size; omega))⟩
        case measure => simp [intOf]; omega
    · have hkn : k = n := by omega
      have hfin : tfind l x = (best, b) := by rw [← hf.out, List.take_of_length_le (by rw [hr.len]; omega)]
      have Hfin := Lib.hid hfin
      clear hfin
      go_wp2_with (first
        | ((with_reducible refine on_load (.tmp 6) ?_); refine wr_box rfl _ _ rfl st_rule rfl hbest ?_)
        | ((with_reducible refine on_store ?_); refine wr_store (r := Ru.zero) rfl _ _ _ rfl st_rule rfl rfl hzero ?_; intro w3 hz3 hg3))
      obtain ⟨e0, e1, e2, e3⟩ := hz3.rule
      refine bodyPost_ret (v := .tuple #[.agg #[.int .u32 best.a, .int .i64 best.n, .int .i64 best.act, .int .i64 best.next], .bool b]) ?_ rfl ⟨(by rw [Hfin.out]), hb.trans (below_of_grown hg3 (by intro g e; injection e with e; omega) hb.size)⟩
      simp [results, Try.results28, go_sem, e0, e1, e2, e3]
theorem find_is (A : Option Addr) (n c : Nat) (l : List Ru) (x : Int) (w : World) (hm : n ≤ 9223372036854775807) (B : Nat) (hr : RdM Ru.cs w B A n c l) (hok : ∀ r ∈ l, r.Ok) (hx : 0 ≤ x ∧ x ≤ 4294967295) (s : Ru) (b : Bool) (h : tfind l x = (s, b)) :
    Calls Try.prog 28 #[.slice A n c, .int .u32 x] w fun e w' => e = .returned (.tuple #[.agg #[.int .u32 s.a, .int .i64 s.n, .int .i64 s.act, .int .i64 s.next], .bool b]) ∧ Below w.heap.size w w' := by
  have := find_any A n c l x w hm B hr hok hx
  rw [h] at this
  exact this
/-- A number and a yes or no come back. -/
def RetIB (p : Int × Bool) (w : World) (e : Ending) (w' : World) : Prop := e = .returned (.tuple #[.int .i64 p.1, .bool p.2]) ∧ Below w.heap.size w w'
theorem next_any (A : Option Addr) (n c : Nat) (l : List Ru) (x : Int) (w : World) (hm : n ≤ 9223372036854775807) (B : Nat) (hr : RdM Ru.cs w B A n c l) (hok : ∀ r ∈ l, r.Ok) (hx : 0 ≤ x ∧ x ≤ 4294967295) :
    Calls Try.prog 14 #[.slice A n c, .int .u32 x] w (RetIB (tnext l x) w) := by
  have hc := find_any A n c l x w hm B hr hok hx
  obtain ⟨best, b, hp⟩ : ∃ best b, tfind l x = (best, b) := ⟨_, _, rfl⟩
  have hn : tnext l x = if b = true ∧ best.act = 1 then (best.next, true) else (0, false) := by unfold tnext; rw [hp]
  have hways : (b = false ∧ tnext l x = (0, false)) ∨ (b = true ∧ (best.act != 1) = true ∧ tnext l x = (0, false)) ∨ (b = true ∧ (best.act != 1) = false ∧ tnext l x = (best.next, true)) := by
    rw [hn]
    cases b
    · simp
    · by_cases h : best.act = 1 <;> simp [h]
  have Hc := Lib.hid hc
  rw [hp] at Hc
  clear hc hn hp
  generalize tnext l x = v at *
  rcases hways with ⟨rfl, rfl⟩ | ⟨rfl, h, rfl⟩ | ⟨rfl, h, rfl⟩
  all_goals go_enter Try.func14, Try.ntmps14
  all_goals go_wp2_with (go_at_call 28; refine Hc.out.mono ?_; rintro e w1 ⟨rfl, hb1⟩)
  all_goals go_ret2
  all_goals exact ⟨rfl, hb1.alloc hb1.size _⟩
def exRules : List Ru := [⟨167772160, 8, 1, 1⟩, ⟨167837696, 16, 1, 2⟩]
end Go.Proofs.Ytdmkiejaejlajaa

/-! ### RuleMay -/
namespace Go.Proofs.Ytdmkiejaejlajaa
open Go.RowKit Go.Th
set_option linter.unusedVariables false
set_option maxHeartbeats 1000000 in
theorem may_any (r : Ru) (nodes : Int) (w : World) (h : r.Ok) : Calls Try.prog 39 #[r.v, .int .i64 nodes] w (RetB (.int .i64 (r.may nodes)) w) := by
  have Ha := Lib.hid h.a
  have Hn := Lib.hid h.n
  have hc : (pmay r.a r.n != 0) = true ∧ r.may nodes = pmay r.a r.n ∨
      (pmay r.a r.n != 0) = false ∧ (r.act == 1) = true ∧ r.next < 0 ∧ r.may nodes = 10 ∨
      (pmay r.a r.n != 0) = false ∧ (r.act == 1) = true ∧ 0 ≤ r.next ∧ nodes ≤ r.next ∧ r.may nodes = 10 ∨
      (pmay r.a r.n != 0) = false ∧ (r.act == 1) = true ∧ 0 ≤ r.next ∧ r.next < nodes ∧ r.may nodes = 0 ∨
      (pmay r.a r.n != 0) = false ∧ (r.act == 1) = false ∧ (r.act == 2) = true ∧ (r.next != 0) = true ∧ r.may nodes = 10 ∨
      (pmay r.a r.n != 0) = false ∧ (r.act == 1) = false ∧ (r.act == 2) = true ∧ (r.next != 0) = false ∧ r.may nodes = 0 ∨
      (pmay r.a r.n != 0) = false ∧ (r.act == 1) = false ∧ (r.act == 2) = false ∧ (r.act == 3) = true ∧ (r.next != 0) = true ∧ r.may nodes = 10 ∨
      (pmay r.a r.n != 0) = false ∧ (r.act == 1) = false ∧ (r.act == 2) = false ∧ (r.act == 3) = true ∧ (r.next != 0) = false ∧ r.may nodes = 0 ∨
      (pmay r.a r.n != 0) = false ∧ (r.act == 1) = false ∧ (r.act == 2) = false ∧ (r.act == 3) = false ∧ r.may nodes = 9 := by
    unfold Ru.may
    by_cases h0 : pmay r.a r.n = 0
    · by_cases h1 : r.act = 1
      · by_cases h2 : r.next < 0
        · simp [h0, h1, h2]
        · by_cases h3 : nodes ≤ r.next
          · simp [h0, h1, h2, h3]; omega
          · simp [h0, h1, h2, h3]; omega
      · by_cases h2 : r.act = 2
        · by_cases h3 : r.next = 0 <;> simp [h0, h2, h3]
        · by_cases h3 : r.act = 3
          · by_cases h4 : r.next = 0 <;> simp [h0, h3, h4]
          · simp [h0, h1, h2, h3]
    · simp [h0]
  obtain ⟨a, n, act, next⟩ := r
  show Calls Try.prog 39 #[.agg #[.int .u32 a, .int .i64 n, .int .i64 act, .int .i64 next], .int .i64 nodes] w _
  simp only at Ha Hn hc
  generalize Ru.may ⟨a, n, act, next⟩ nodes = v at *
  have hp := fun W => pmay_any a n W Ha.out Hn.out
  generalize pmay a n = e at *
  have Hp := Lib.hid hp
  clear h hp
  rcases hc with ⟨h1, rfl⟩ | ⟨h1, h2, h3, rfl⟩ | ⟨h1, h2, h3, h4, rfl⟩ | ⟨h1, h2, h3, h4, rfl⟩ | ⟨h1, h2, h3, h4, rfl⟩ | ⟨h1, h2, h3, h4, rfl⟩ | ⟨h1, h2, h3, h4, h5, rfl⟩ | ⟨h1, h2, h3, h4, h5, rfl⟩ | ⟨h1, h2, h3, h4, rfl⟩
  all_goals go_enter Try.func39, Try.ntmps39
  all_goals go_wp2_with (go_at_call 46; refine (Hp.out _).mono ?_; rintro e w' ⟨rfl, rfl⟩)
  all_goals go_ret
  all_goals exact ⟨rfl, below_alloc w (Nat.le_refl _) _⟩
theorem get_eq {α : Type} {xs : List α} {i j : Nat} {x y : α} (h1 : xs[i]? = some x) (h2 : xs[j]? = some y) (hij : i = j) : x = y := by subst hij; rw [h1] at h2; injection h2
theorem may_is (r : Ru) (nodes : Int) (w : World) (h : r.Ok) (e : Int) (he : r.may nodes = e) : Calls Try.prog 39 #[.agg #[.int .u32 r.a, .int .i64 r.n, .int .i64 r.act, .int .i64 r.next], .int .i64 nodes] w fun x w' => x = .returned (.int .i64 e) ∧ Below w.heap.size w w' := by
  have := may_any r nodes w h
  rw [he] at this
  exact this
theorem cmp_is (r s : Ru) (w : World) (hr : r.Ok) (hs : s.Ok) (v : Int) (hv : r.cmp s = v) : Calls Try.prog 40 #[.agg #[.int .u32 r.a, .int .i64 r.n, .int .i64 r.act, .int .i64 r.next], .agg #[.int .u32 s.a, .int .i64 s.n, .int .i64 s.act, .int .i64 s.next]] w fun x w' => x = .returned (.int .i64 v) ∧ Below w.heap.size w w' := by
  have := rcmp_any r s w hr hs
  rw [hv] at this
  exact this
/-- The loop's relation: k rules were looked at. -/
def MayRel (l : List Ru) (nodes : Int) (n : Nat) (w : World) (i : Value) (wr : World) : Prop :=
  ∃ k : Nat, k ≤ n ∧ i = .int .i64 k ∧ Hid (tmay l nodes = tmayGo nodes (aheadOf l k) (l.drop k)) ∧ Below w.heap.size w wr
set_option maxHeartbeats 2000000 in
theorem tmay_any (A : Option Addr) (n c : Nat) (l : List Ru) (nodes : Int) (w : World) (hm : n ≤ 9223372036854775807) (B : Nat) (hr : RdM Ru.cs w B A n c l) (hok : ∀ r ∈ l, r.Ok) :
    Calls Try.prog 32 #[.slice A n c, .int .i64 nodes] w (RetB (.int .i64 (tmay l nodes)) w) := by
  have Hok := Lib.hid hok
  clear hok
  go_enter Try.func32, Try.ntmps32
  go_wp2
  go_loopw [10] (fun i wr => MayRel l nodes n w i wr) (fun i _ => n - (intOf i).toNat)
  case atStart => exact ⟨0, by omega, rfl, rfl, Below.refl _ _⟩
  case round =>
    obtain ⟨k, hk, rfl, hf, hb⟩ := hrel
    have hrk := hr.step hb
    have hlen := hrk.len
    have hbs := hb.size
    by_cases hlt : k < n
    · obtain ⟨r, hr0⟩ : ∃ r, l[k]? = some r := ⟨l[k]'(by omega), List.getElem?_eq_getElem _⟩
      have hro := Hok.out r (List.mem_of_getElem? hr0)
      have Hro := Lib.hid hro
      have Hr := Lib.hid hr0
      obtain ⟨e, he⟩ : ∃ e, r.may nodes = e := ⟨_, rfl⟩
      have He := Lib.hid he
      clear hr0 hro he
      by_cases hz : e = 0
      · subst hz
        rcases Nat.eq_zero_or_pos k with h0 | h0
        · subst h0
          have h5 := Lib.hid (hf.out.trans (tmay_first Hr.out He.out))
          clear hf
          go_wp2_with (first
            | ((with_reducible refine on_index (.tmp 8) ?_); refine wm_at Ru.cs_length rfl _ _ _ rfl el_rule rfl rfl (by omega) (by omega) hrk ?_; intro b1 j1 r1 hr1 hb1 hc1; have hxx : r = r1 := (by have e := hr1.out; rw [Int.toNat_natCast, Hr.out] at e; injection e); subst hxx)
            | ((with_reducible refine on_load (.tmp 13) ?_); refine wr_load rfl _ _ rfl st_rule rfl hc1 ?_)
            | (go_at_call 39; refine (may_is r nodes _ Hro.out 0 He.out).mono ?_; rintro y w1 ⟨rfl, hb1⟩))
          refine wp_region_reach (by kernel_rfl) (by kernel_rfl) ?_
          repeat (first | go_big_quiet_skip | go_big_quiet_step (fail) | quiet_step (fail))
          refine wpQuiet_nil ?_
          rintro _ ⟨q, rfl⟩
          have hqw5 := q.h
          obtain ⟨w5, hw5'⟩ : ∃ W, q.w = W := ⟨_, rfl⟩
          rw [hw5'] at hqw5 ⊢
          clear hw5' q
          go_wp2
          go_roundw
          case rel => exact ⟨0 + 1, by omega, by go_num, h5.out, ((hb.alloc hbs _).trans (hb1.mono (by simp; omega))).trans (hqw5.mono (by have := hb1.size; simp at this; omega))⟩
          case measure => simp [intOf]; omega
        · obtain ⟨k, rfl⟩ : ∃ j, k = j + 1 := ⟨k - 1, by omega⟩
          obtain ⟨q, hq0⟩ : ∃ q, l[k]? = some q := ⟨l[k]'(by omega), List.getElem?_eq_getElem _⟩
          have Hqo := Lib.hid (Hok.out q (List.mem_of_getElem? hq0))
          have Hq := Lib.hid hq0
          obtain ⟨v, hv⟩ : ∃ v, r.cmp q = v := ⟨_, rfl⟩
          have hvw : ((v != 1) = true ∧ tmay l nodes = 11) ∨ ((v != 1) = false ∧ tmay l nodes = tmayGo nodes (aheadOf l (k + 1 + 1)) (l.drop (k + 1 + 1))) := by
            by_cases h1 : v = 1
            · exact .inr ⟨by simp [h1], hf.out.trans (tmay_on Hr.out hq0 He.out (by rw [hv]; exact h1))⟩
            · exact .inl ⟨by simp [h1], hf.out.trans (tmay_order Hr.out hq0 He.out (by rw [hv]; exact h1))⟩
          have Hv := Lib.hid hv
          clear hf hq0 hv
          rcases hvw with ⟨hv1, h5⟩ | ⟨hv1, h5⟩
          all_goals
            have H5 := Lib.hid h5
            clear h5
            go_wp2_with (first
              | ((with_reducible refine on_index (.tmp 8) ?_); refine wm_at Ru.cs_length rfl _ _ _ rfl el_rule rfl rfl (by omega) (by omega) hrk ?_; intro b1 j1 r1 hr1 hb1 hc1; have hxx : r = r1 := get_eq Hr.out hr1.out (by omega); subst hxx)
              | ((with_reducible refine on_load (.tmp 13) ?_); refine wr_load rfl _ _ rfl st_rule rfl hc1 ?_)
              | (go_at_call 39; refine (may_is r nodes _ Hro.out 0 He.out).mono ?_; rintro y w1 ⟨rfl, hb1⟩))
            have hx1 := ((hrk.alloc (.cells r.cs.toArray 40)).step hb1).reach
            have bx1 := ((Box.new wr r.cs.toArray 40).step hb1).reach
            have hb2 := (hb.alloc hbs (.cells r.cs.toArray 40)).trans (hb1.mono (by simp; omega))
            refine wp_region_reach (by kernel_rfl) (by kernel_rfl) ?_
            repeat (first | go_big_quiet_skip | (refine wqr_box rfl _ (.tmp 6) rfl st_rule rfl bx1 ?_) | (refine wqr_at rfl _ (.tmp 25) _ rfl el_rule rfl rfl (by omega) (by omega) (Th.Reach.refl _ _) hx1 ?_; intro b2 j2 t2 ht2 hc2; have hxx : q = t2 := get_eq Hq.out ht2.out (by omega); subst hxx) | (refine wqr_load rfl _ (.tmp 28) rfl st_rule rfl hc2 ?_) | go_big_quiet_step (exact Calls.reach (cmp_is r q _ Hro.out Hqo.out v Hv.out)) | quiet_step (exact Calls.reach (cmp_is r q _ Hro.out Hqo.out v Hv.out)))
            refine wpQuiet_nil ?_
            rintro _ ⟨q, rfl⟩
            have hqw5 := q.h
            obtain ⟨w5, hw5'⟩ : ∃ W, q.w = W := ⟨_, rfl⟩
            rw [hw5'] at hqw5 ⊢
            clear hw5' q
            have hb3 := hb2.trans (hqw5.mono hb2.size)
            go_wp2
          · go_ret
            exact ⟨(by rw [H5.out]; try rfl), hb3⟩
          · go_roundw
            case rel => exact ⟨k + 1 + 1, by omega, by go_num, H5.out, hb3⟩
            case measure => simp [intOf]; omega
      · have h5 := Lib.hid (hf.out.trans (tmay_bad Hr.out (by rw [He.out]; exact hz) _))
        have hz' : (e != 0) = true := by simp [hz]
        clear hf
        go_wp2_with (first
          | ((with_reducible refine on_index (.tmp 8) ?_); refine wm_at Ru.cs_length rfl _ _ _ rfl el_rule rfl rfl (by omega) (by omega) hrk ?_; intro b1 j1 r1 hr1 hb1 hc1; have hxx : r = r1 := (by have e := hr1.out; rw [Int.toNat_natCast, Hr.out] at e; injection e); subst hxx)
          | ((with_reducible refine on_load (.tmp 13) ?_); refine wr_load rfl _ _ rfl st_rule rfl hc1 ?_)
          | (go_at_call 39; refine (may_is r nodes _ Hro.out e He.out).mono ?_; rintro e' w1 ⟨rfl, hb1⟩))
        go_ret
        exact ⟨(by rw [h5.out, He.out]; try rfl), (hb.alloc hbs _).trans (hb1.mono (by simp; omega))⟩
    · have h5 : tmay l nodes = 0 := by rw [hf.out, List.drop_eq_nil_of_le (by omega)]; rfl
      have H5 := Lib.hid h5
      clear h5 hf
      go_wp2
      go_ret
      exact ⟨(by rw [H5.out]; try rfl), hb⟩
end Go.Proofs.Ytdmkiejaejlajaa

/-! ### Store -/
namespace Go.Th
open Go.RowKit
set_option linter.unusedVariables false
def setMany : List Value → Nat → List Value → List Value
  | xs, _, [] => xs
  | xs, o, v :: vs => setMany (xs.set o v) (o + 1) vs
theorem setMany_mid : ∀ (vs a b c : List Value), b.length = vs.length → setMany (a ++ b ++ c) a.length vs = a ++ vs ++ c
  | [], a, b, c, h => by
    have : b = [] := List.eq_nil_of_length_eq_zero h
    subst this
    rfl
  | v :: vs, a, [], c, h => by simp at h
  | v :: vs, a, b0 :: b, c, h => by
    have ih := setMany_mid vs (a ++ [v]) b c (by simpa using h)
    have e : (a ++ b0 :: b ++ c).set a.length v = a ++ [v] ++ b ++ c := by simp [List.append_assoc]
    rw [setMany, e]
    simpa [List.append_assoc] using ih
theorem setMany_flat {α : Type} {f : α → List Value} {k : Nat} (hf : ∀ x, (f x).length = k) {xs : List α} {i : Nat} (hi : i < xs.length) (r : α) : setMany (xs.flatMap f) (i * k) (f r) = (xs.set i r).flatMap f := by
  have e1 : xs = xs.take i ++ xs[i] :: xs.drop (i + 1) := by simp
  have e2 : xs.set i r = xs.take i ++ r :: xs.drop (i + 1) := List.set_eq_take_append_cons_drop.trans (if_pos hi)
  have e3 : ((xs.take i).flatMap f).length = i * k := by rw [flat_length hf, List.length_take, Nat.min_eq_left (Nat.le_of_lt hi)]
  have e4 : xs.flatMap f = (xs.take i).flatMap f ++ f xs[i] ++ (xs.drop (i + 1)).flatMap f := by
    have := congrArg (List.flatMap f) e1
    rw [List.flatMap_append, List.flatMap_cons] at this
    rw [List.append_assoc]
    exact this
  rw [e4, ← e3, setMany_mid _ _ _ _ (by rw [hf, hf]), e2, List.flatMap_append, List.flatMap_cons, List.append_assoc]
theorem grown_refl (w : World) (row : Option Nat) : w.grownBy w row := ⟨rfl, rfl, rfl, Nat.le_refl _, fun _ _ _ => rfl⟩
theorem grown_trans {a b c : World} {row : Option Nat} (h : a.grownBy b row) (h2 : b.grownBy c row) : a.grownBy c row :=
  ⟨h2.os.trans h.os, h2.tape.trans h.tape, h2.output.trans h.output, Nat.le_trans h.size h2.size, fun k hk hne => (h2.block k (Nat.lt_of_lt_of_le hk h.size) hne).trans (h.block k hk hne)⟩
theorem Ow.stores {base e k g n c : Nat} : ∀ (vs : List Value) {w : World} {xs : List Value} (o : Nat), Ow w base e k (some ⟨g, 0, none⟩) n c xs → Ow (w.setCells g o vs) base e k (some ⟨g, 0, none⟩) n c (setMany xs o vs) ∧ w.grownBy (w.setCells g o vs) (some g)
  | [], w, xs, o, h => ⟨h, grown_refl _ _⟩
  | v :: vs, w, xs, o, h => by
    obtain ⟨h1, h2⟩ := h.own.stored o v
    obtain ⟨h3, h4⟩ := Ow.stores vs (o + 1) (⟨h1⟩ : Ow (w.setCell ⟨g, o, none⟩ v) base e k (some ⟨g, 0, none⟩) n c (xs.set o v))
    exact ⟨h3, grown_trans h2 h4⟩
section
variable {P : Program} {ops : Array Oper} {rest : List Oper} {o : Oper} {a : Act} {Q : Exit → Act → World → Prop} {w : World}
theorem OwM.at0 {α : Type} {f : α → List Value} {k base e n c : Nat} {A : Option Addr} {xs : List α} (h : OwM f k w base e A n c xs) (hn : 0 < n) : ∃ g, A = some ⟨g, 0, none⟩ ∧ base ≤ g ∧ g < w.heap.size := by
  rcases h.ow.form with ⟨_, h0, _⟩ | ⟨g, hA, hb, hl⟩
  · omega
  · exact ⟨g, hA, hb, hl⟩
/-- &s[i] of a row of the call's own. -/
theorem wm_place (hw : Region.wanted o (yielded ops a.tmps) = true) (T : TypeId) (s i : Operand) (ho : o.op = .indexAddr T s i) {E bytes k : Nat} {z : Value} (el : ElM P T E z bytes k)
    {g n c : Nat} {kk : IntKind} {I : Int} (hs : a.eval s = .slice (some ⟨g, 0, none⟩) n c) (hi : a.eval i = .int kk I) (j : Nat) (hj : I = (j : Int) ∧ j < n)
    (h : wpList P ops Q rest (a.put o.dst (.pointer (some ⟨g, j * k, none⟩))) w) : wpList P ops Q (o :: rest) a w := by
  obtain ⟨rfl, hj⟩ := hj
  exact wl_index_own hw T s i ho el.ht el.size hs hi (by omega) (by omega) (by rw [Int.toNat_natCast]; exact h)
/-- s[i] = r, a whole element. -/
theorem wm_store (hw : Region.wanted o (yielded ops a.tmps) = true) (T : TypeId) (x y : Operand) (ho : o.op = .store T x y) {α : Type} {f : α → List Value} {k : Nat} (hf : ∀ x, (f x).length = k) (hs : (P.info? T).map (·.size) = some k)
    {g i n c base e : Nat} {xs : List α} (hx : a.eval x = .pointer (some ⟨g, i * k, none⟩)) (r : α) (hy : a.eval y = .agg (f r).toArray) (h1 : ∀ u ∈ f r, u.oneCell' = true)
    (hown : OwM f k w base e (some ⟨g, 0, none⟩) n c xs) (hi : i < n)
    (h : ∀ w', OwM f k w' base e (some ⟨g, 0, none⟩) n c (xs.set i r) → w.grownBy w' (some g) → Below base w w' → wpList P ops Q rest (a.put o.dst undef) w') : wpList P ops Q (o :: rest) a w := by
  have hl := hown.len
  obtain ⟨h2, h3⟩ := hown.ow.stores (f r) (i * k)
  rw [setMany_flat hf (by omega)] at h2
  have hbase : base ≤ g ∧ g < w.heap.size := by
    rcases hown.ow.form with ⟨e, _⟩ | ⟨g', e, hb, hlt⟩
    · cases e
    · injection e with e; injection e with e; subst e; exact ⟨hb, hlt⟩
  have ht : w.there g (i * k) (f r).toArray.size := fun j hj => by
    have hj' : j < k := by rw [← hf r]; simpa using hj
    have hlt : i * k + j < n * k := by
      have : (i + 1) * k ≤ n * k := Nat.mul_le_mul_right k hi
      rw [Nat.succ_mul] at this
      omega
    refine ⟨?_, hown.ow.own.frozenAt _⟩
    rw [hown.ow.own.cellAt _ hlt, List.getElem?_eq_getElem (by rw [flat_length hf, hl]; exact hlt)]
    rfl
  refine wl_run0 hw ?_ (h _ ⟨h2, by rw [List.length_set]; exact hl⟩ h3 ((Below.refl _ _).grown h3 (by omega) (fun k hk => by injection hk with hk; omega)))
  simp only [execOp, ho, hx, hy, Instr.storeAt, Instr.sureAddr, Sem.run_bind, Sem.run_pure, Result.andThen_ok, run_storeVar_mid w g (i * k) T (f r).toArray ht (by rw [hs]; simp [hf]) (all_oneCell_toArray h1)]
end
/-- A store's guard, by the place's operand. -/
theorem on_store_at {P : Program} {ops : Array Oper} {Q : Exit → Act → World → Prop} {rest : List Oper} {a : Act} {w : World} (x : Operand) {d T y ty pos af g} (h : wpList P ops Q (⟨d, .store T x y, ty, pos, af, g⟩ :: rest) a w) : wpList P ops Q (⟨d, .store T x y, ty, pos, af, g⟩ :: rest) a w := h
section
variable {P : Program} {ops : Array Oper} {C : World → Prop} {Q : Act → Prop} {rest : List Oper} {a : Act}
theorem onq_slice (s : Operand) {d T lo hi mx ty pos af g} (h : wpQuiet P ops C Q (⟨d, .slice T s lo hi mx, ty, pos, af, g⟩ :: rest) a) : wpQuiet P ops C Q (⟨d, .slice T s lo hi mx, ty, pos, af, g⟩ :: rest) a := h
theorem onq_index (s : Operand) {d T i ty pos af g} (h : wpQuiet P ops C Q (⟨d, .indexAddr T s i, ty, pos, af, g⟩ :: rest) a) : wpQuiet P ops C Q (⟨d, .indexAddr T s i, ty, pos, af, g⟩ :: rest) a := h
theorem onq_load (x : Operand) {d T ty pos af g} (h : wpQuiet P ops C Q (⟨d, .load T x, ty, pos, af, g⟩ :: rest) a) : wpQuiet P ops C Q (⟨d, .load T x, ty, pos, af, g⟩ :: rest) a := h
theorem onq_convert (x : Operand) {d src dst ty pos af g} (h : wpQuiet P ops C Q (⟨d, .convert src dst x, ty, pos, af, g⟩ :: rest) a) : wpQuiet P ops C Q (⟨d, .convert src dst x, ty, pos, af, g⟩ :: rest) a := h
end
end Go.Th

/-! ### Ref08 -/
namespace Go.Proofs.Ytdmkiejaejlajaa
open Go.RowKit Go.Th
set_option linter.unusedVariables false
/-- The loop of Find: k rules were looked at; which one is the best. -/
def RFindRel (x : Int) (l : List Ru) (n : Nat) (w : World) (bs i : Value) (wr : World) : Prop :=
  ∃ (k : Nat) (s : Ru) (b : Bool) (z : Int), k ≤ n ∧ i = .int .i64 k ∧ bs = .int .i64 z ∧ Hid (tfind (l.take k) x = (s, b)) ∧ ((b = false ∧ z = -1 ∧ s = Ru.zero) ∨ (b = true ∧ ∃ j : Nat, z = j ∧ j < n ∧ Hid (l[j]? = some s))) ∧ Box wr w.heap.size 40 Ru.zero.cs.toArray ∧ Below w.heap.size w wr
set_option maxHeartbeats 2000000 in
theorem rfind_any (A : Option Addr) (n c : Nat) (l : List Ru) (x : Int) (w : World) (hm : n ≤ 9223372036854775807) (B : Nat) (hr : RdM Ru.cs w B A n c l) (hok : ∀ r ∈ l, r.Ok) (hx : 0 ≤ x ∧ x ≤ 4294967295) :
    Calls Try.prog 42 #[.slice A n c, .int .u32 x] w (RetRule (tfind l x) w) := by
  have Hok := Lib.hid hok
  have Hx := Lib.hid hx
  clear hok hx
  go_enter Try.func42, Try.ntmps42
  go_wp2
  go_loopw [6, 7] (fun bs i wr => RFindRel x l n w bs i wr) (fun _ i _ => n - (intOf i).toNat)
  case atStart => exact ⟨0, Ru.zero, false, -1, by omega, rfl, rfl, Lib.hid rfl, .inl ⟨rfl, rfl, rfl⟩, (by have := Box.new w Ru.zero.cs.toArray 40; simpa [Ru.cs, Ru.zero] using this), (by repeat (first | exact Below.refl _ _ | refine Below.drew ?_ | refine Below.alloc ?_ (by first | (simp; done) | (simp; omega)) _ | refine Below.setCell ?_ (by first | (simp; done) | (simp; omega)) _ | assumption))⟩
  case round =>
    obtain ⟨k, s, b, z, hk, rfl, rfl, hf, hz, hbox, hb⟩ := hrel
    have hrk : RdM Ru.cs wr B A n c l := hr.step hb
    have hlen := hrk.len
    have hbs := hb.size
    have hzn : -1 ≤ z ∧ z < n := by rcases hz with ⟨_, h, _⟩ | ⟨_, j, h, h2, _⟩ <;> omega
    obtain ⟨hz1, hz2⟩ := hzn
    by_cases hlt : k < n
    · obtain ⟨r, hr0⟩ : ∃ r, l[k]? = some r := ⟨l[k]'(by omega), List.getElem?_eq_getElem _⟩
      have hro := Hok.out r (List.mem_of_getElem? hr0)
      have hsn := tfind_snoc x hr0
      rw [hf.out] at hsn
      have Hr := Lib.hid hr0
      have hways : (holds r.a r.n x = false ∧ fstep x (s, b) r = (s, b)) ∨ (holds r.a r.n x = true ∧ b = true ∧ r.n ≤ s.n ∧ fstep x (s, b) r = (s, b)) ∨ (holds r.a r.n x = true ∧ b = true ∧ s.n < r.n ∧ fstep x (s, b) r = (r, true)) ∨ (holds r.a r.n x = true ∧ b = false ∧ fstep x (s, b) r = (r, true)) := by
        unfold fstep Ru.holds
        cases h1 : holds r.a r.n x <;> cases b <;> simp
        by_cases h2 : r.n ≤ s.n
        · left; simp [h2]; intro h; omega
        · right; simp [h2]; omega
      have hhold : ∀ W, Calls Try.prog 49 #[.int .u32 r.a, .int .i64 r.n, .int .u32 x] W (fun e w' => e = .returned (.bool (holds r.a r.n x)) ∧ W = w') := fun W => rholds_any r.a r.n x W hro.a Hx.out
      generalize holds r.a r.n x = hv at hhold hways
      have Hhold := Lib.hid hhold
      have x9 := hrk.reach
      clear hro hr0 hhold hrk
      rcases hways with ⟨rfl, h3⟩ | ⟨rfl, rfl, h2, h3⟩ | ⟨rfl, rfl, h2, h3⟩ | ⟨rfl, rfl, h3⟩
      · rw [h3] at hsn
        have Hsn := Lib.hid hsn
        have hz' := Lib.hid hz
        clear hsn h3 hz
        go_wp2_with fail
        refine wp_region_reach (by kernel_rfl) (by kernel_rfl) ?_
        repeat (first | go_big_quiet_skip | ((with_reducible refine onq_index (.tmp 14) ?_); refine wqr_at rfl _ (.tmp 14) _ rfl el_rule rfl rfl (by omega) (by omega) (Th.Reach.refl _ _) x9 ?_; intro b1 j1 t1 ht1 hc1; have hxx := get_eq Hr.out ht1.out (by omega); subst hxx; have f0b1 : ∀ q : Step _ _, q.w.cell? ⟨b1, j1, none⟩ = some (.int .u32 r.a) := fun q => hc1.out q.w ⟨q, rfl⟩ 0 _ rfl) | ((with_reducible refine onq_index (.tmp 19) ?_); refine wqr_at rfl _ (.tmp 19) _ rfl el_rule rfl rfl (by omega) (by omega) (Th.Reach.refl _ _) x9 ?_; intro b2 j2 t2 ht2 hc2; have hxx := get_eq Hr.out ht2.out (by omega); subst hxx; have f1b2 : ∀ q : Step _ _, q.w.cell? ⟨b2, j2 + 1, none⟩ = some (.int .i64 r.n) := fun q => hc2.out q.w ⟨q, rfl⟩ 1 _ rfl) | ((with_reducible refine onq_index (.tmp 30) ?_); refine wqr_at rfl _ (.tmp 30) _ rfl el_rule rfl rfl (by omega) (by omega) (Th.Reach.refl _ _) x9 ?_; intro b3 j3 t3 ht3 hc3; have hxx := get_eq Hr.out ht3.out (by omega); subst hxx; have f1b3 : ∀ q : Step _ _, q.w.cell? ⟨b3, j3 + 1, none⟩ = some (.int .i64 r.n) := fun q => hc3.out q.w ⟨q, rfl⟩ 1 _ rfl) | ((with_reducible refine onq_index (.tmp 35) ?_); refine wqr_at rfl _ (.tmp 35) _ rfl el_rule rfl rfl (by omega) (by omega) (Th.Reach.refl _ _) x9 ?_; intro b4 j4 t4 ht4 hc4; have hxx := get_eq Hs.out ht4.out (by omega); subst hxx; have f1b4 : ∀ q : Step _ _, q.w.cell? ⟨b4, j4 + 1, none⟩ = some (.int .i64 s.n) := fun q => hc4.out q.w ⟨q, rfl⟩ 1 _ rfl) | go_big_quiet_step (with_reducible exact Calls.reach_same (Hhold.out _)) | quiet_step (with_reducible exact Calls.reach_same (Hhold.out _)))
        refine wpQuiet_nil ?_
        rintro _ ⟨q, rfl⟩
        have hqw5 := q.h
        obtain ⟨w5, hw5'⟩ : ∃ W, q.w = W := ⟨_, rfl⟩
        rw [hw5'] at hqw5 ⊢
        clear hw5' q
        go_wp2
        go_roundw
        case rel => exact ⟨k + 1, s, b, z, by omega, by go_num, rfl, Hsn, hz'.out, hbox.step hqw5, hb.trans (hqw5.mono hbs)⟩
        case measure => simp [intOf]; omega
      · rw [h3] at hsn
        have Hsn := Lib.hid hsn
        rcases hz with ⟨h, _, _⟩ | ⟨_, j, rfl, hjn, Hs⟩
        · cases h
        clear hsn h3 hz1 hz2
        have hjl : decide ((j : Int) < 0) = false := decide_eq_false (by omega)
        have hnl : decide (r.n > s.n) = false := decide_eq_false (by omega)
        go_wp2_with fail
        refine wp_region_reach (by kernel_rfl) (by kernel_rfl) ?_
        repeat (first | go_big_quiet_skip | ((with_reducible refine onq_index (.tmp 14) ?_); refine wqr_at rfl _ (.tmp 14) _ rfl el_rule rfl rfl (by omega) (by omega) (Th.Reach.refl _ _) x9 ?_; intro b1 j1 t1 ht1 hc1; have hxx := get_eq Hr.out ht1.out (by omega); subst hxx; have f0b1 : ∀ q : Step _ _, q.w.cell? ⟨b1, j1, none⟩ = some (.int .u32 r.a) := fun q => hc1.out q.w ⟨q, rfl⟩ 0 _ rfl) | ((with_reducible refine onq_index (.tmp 19) ?_); refine wqr_at rfl _ (.tmp 19) _ rfl el_rule rfl rfl (by omega) (by omega) (Th.Reach.refl _ _) x9 ?_; intro b2 j2 t2 ht2 hc2; have hxx := get_eq Hr.out ht2.out (by omega); subst hxx; have f1b2 : ∀ q : Step _ _, q.w.cell? ⟨b2, j2 + 1, none⟩ = some (.int .i64 r.n) := fun q => hc2.out q.w ⟨q, rfl⟩ 1 _ rfl) | ((with_reducible refine onq_index (.tmp 30) ?_); refine wqr_at rfl _ (.tmp 30) _ rfl el_rule rfl rfl (by omega) (by omega) (Th.Reach.refl _ _) x9 ?_; intro b3 j3 t3 ht3 hc3; have hxx := get_eq Hr.out ht3.out (by omega); subst hxx; have f1b3 : ∀ q : Step _ _, q.w.cell? ⟨b3, j3 + 1, none⟩ = some (.int .i64 r.n) := fun q => hc3.out q.w ⟨q, rfl⟩ 1 _ rfl) | ((with_reducible refine onq_index (.tmp 35) ?_); refine wqr_at rfl _ (.tmp 35) _ rfl el_rule rfl rfl (by omega) (by omega) (Th.Reach.refl _ _) x9 ?_; intro b4 j4 t4 ht4 hc4; have hxx := get_eq Hs.out ht4.out (by omega); subst hxx; have f1b4 : ∀ q : Step _ _, q.w.cell? ⟨b4, j4 + 1, none⟩ = some (.int .i64 s.n) := fun q => hc4.out q.w ⟨q, rfl⟩ 1 _ rfl) | go_big_quiet_step (with_reducible exact Calls.reach_same (Hhold.out _)) | quiet_step (with_reducible exact Calls.reach_same (Hhold.out _)))
        refine wpQuiet_nil ?_
        rintro _ ⟨q, rfl⟩
        have hqw5 := q.h
        obtain ⟨w5, hw5'⟩ : ∃ W, q.w = W := ⟨_, rfl⟩
        rw [hw5'] at hqw5 ⊢
        clear hw5' q
        go_wp2
        go_roundw
        case rel => exact ⟨k + 1, s, true, j, by omega, by go_num, rfl, Hsn, .inr ⟨rfl, j, rfl, hjn, Hs⟩, hbox.step hqw5, hb.trans (hqw5.mono hbs)⟩
        case measure => simp [intOf]; omega
      · rw [h3] at hsn
        have Hsn := Lib.hid hsn
        rcases hz with ⟨h, _, _⟩ | ⟨_, j, rfl, hjn, Hs⟩
        · cases h
        clear hsn h3 hz1 hz2
        have hjl : decide ((j : Int) < 0) = false := decide_eq_false (by omega)
        go_wp2_with fail
        refine wp_region_reach (by kernel_rfl) (by kernel_rfl) ?_
        repeat (first | go_big_quiet_skip | ((with_reducible refine onq_index (.tmp 14) ?_); refine wqr_at rfl _ (.tmp 14) _ rfl el_rule rfl rfl (by omega) (by omega) (Th.Reach.refl _ _) x9 ?_; intro b1 j1 t1 ht1 hc1; have hxx := get_eq Hr.out ht1.out (by omega); subst hxx; have f0b1 : ∀ q : Step _ _, q.w.cell? ⟨b1, j1, none⟩ = some (.int .u32 r.a) := fun q => hc1.out q.w ⟨q, rfl⟩ 0 _ rfl) | ((with_reducible refine onq_index (.tmp 19) ?_); refine wqr_at rfl _ (.tmp 19) _ rfl el_rule rfl rfl (by omega) (by omega) (Th.Reach.refl _ _) x9 ?_; intro b2 j2 t2 ht2 hc2; have hxx := get_eq Hr.out ht2.out (by omega); subst hxx; have f1b2 : ∀ q : Step _ _, q.w.cell? ⟨b2, j2 + 1, none⟩ = some (.int .i64 r.n) := fun q => hc2.out q.w ⟨q, rfl⟩ 1 _ rfl) | ((with_reducible refine onq_index (.tmp 30) ?_); refine wqr_at rfl _ (.tmp 30) _ rfl el_rule rfl rfl (by omega) (by omega) (Th.Reach.refl _ _) x9 ?_; intro b3 j3 t3 ht3 hc3; have hxx := get_eq Hr.out ht3.out (by omega); subst hxx; have f1b3 : ∀ q : Step _ _, q.w.cell? ⟨b3, j3 + 1, none⟩ = some (.int .i64 r.n) := fun q => hc3.out q.w ⟨q, rfl⟩ 1 _ rfl) | ((with_reducible refine onq_index (.tmp 35) ?_); refine wqr_at rfl _ (.tmp 35) _ rfl el_rule rfl rfl (by omega) (by omega) (Th.Reach.refl _ _) x9 ?_; intro b4 j4 t4 ht4 hc4; have hxx := get_eq Hs.out ht4.out (by omega); subst hxx; have f1b4 : ∀ q : Step _ _, q.w.cell? ⟨b4, j4 + 1, none⟩ = some (.int .i64 s.n) := fun q => hc4.out q.w ⟨q, rfl⟩ 1 _ rfl) | go_big_quiet_step (with_reducible exact Calls.reach_same (Hhold.out _)) | quiet_step (with_reducible exact Calls.reach_same (Hhold.out _)))
        refine wpQuiet_nil ?_
        rintro _ ⟨q, rfl⟩
        have hqw5 := q.h
        obtain ⟨w5, hw5'⟩ : ∃ W, q.w = W := ⟨_, rfl⟩
        rw [hw5'] at hqw5 ⊢
        clear hw5' q
        go_wp2
        go_roundw
        case rel => exact ⟨k + 1, r, true, k, by omega, by go_num, rfl, Hsn, .inr ⟨rfl, k, rfl, hlt, Hr⟩, hbox.step hqw5, hb.trans (hqw5.mono hbs)⟩
        case measure => simp [intOf]; omega
      · rw [h3] at hsn
        have Hsn := Lib.hid hsn
        rcases hz with ⟨_, rfl, _⟩ | ⟨h, _⟩
        rotate_left
        · cases h
        clear hsn h3 hz1 hz2
        go_wp2_with fail
        have Hs := Hr
        refine wp_region_reach (by kernel_rfl) (by kernel_rfl) ?_
        repeat (first | go_big_quiet_skip | ((with_reducible refine onq_index (.tmp 14) ?_); refine wqr_at rfl _ (.tmp 14) _ rfl el_rule rfl rfl (by omega) (by omega) (Th.Reach.refl _ _) x9 ?_; intro b1 j1 t1 ht1 hc1; have hxx := get_eq Hr.out ht1.out (by omega); subst hxx; have f0b1 : ∀ q : Step _ _, q.w.cell? ⟨b1, j1, none⟩ = some (.int .u32 r.a) := fun q => hc1.out q.w ⟨q, rfl⟩ 0 _ rfl) | ((with_reducible refine onq_index (.tmp 19) ?_); refine wqr_at rfl _ (.tmp 19) _ rfl el_rule rfl rfl (by omega) (by omega) (Th.Reach.refl _ _) x9 ?_; intro b2 j2 t2 ht2 hc2; have hxx := get_eq Hr.out ht2.out (by omega); subst hxx; have f1b2 : ∀ q : Step _ _, q.w.cell? ⟨b2, j2 + 1, none⟩ = some (.int .i64 r.n) := fun q => hc2.out q.w ⟨q, rfl⟩ 1 _ rfl) | ((with_reducible refine onq_index (.tmp 30) ?_); refine wqr_at rfl _ (.tmp 30) _ rfl el_rule rfl rfl (by omega) (by omega) (Th.Reach.refl _ _) x9 ?_; intro b3 j3 t3 ht3 hc3; have hxx := get_eq Hr.out ht3.out (by omega); subst hxx; have f1b3 : ∀ q : Step _ _, q.w.cell? ⟨b3, j3 + 1, none⟩ = some (.int .i64 r.n) := fun q => hc3.out q.w ⟨q, rfl⟩ 1 _ rfl) | ((with_reducible refine onq_index (.tmp 35) ?_); refine wqr_at rfl _ (.tmp 35) _ rfl el_rule rfl rfl (by omega) (by omega) (Th.Reach.refl _ _) x9 ?_; intro b4 j4 t4 ht4 hc4; have hxx := get_eq Hs.out ht4.out (by omega); subst hxx; have f1b4 : ∀ q : Step _ _, q.w.cell? ⟨b4, j4 + 1, none⟩ = some (.int .i64 s.n) := fun q => hc4.out q.w ⟨q, rfl⟩ 1 _ rfl) | go_big_quiet_step (with_reducible exact Calls.reach_same (Hhold.out _)) | quiet_step (with_reducible exact Calls.reach_same (Hhold.out _)))
        refine wpQuiet_nil ?_
        rintro _ ⟨q, rfl⟩
        have hqw5 := q.h
        obtain ⟨w5, hw5'⟩ : ∃ W, q.w = W := ⟨_, rfl⟩
        rw [hw5'] at hqw5 ⊢
        clear hw5' q
        go_wp2
        go_roundw
        case rel => exact ⟨k + 1, r, true, k, by omega, by go_num, rfl, Hsn, .inr ⟨rfl, k, rfl, hlt, Hr⟩, hbox.step hqw5, hb.trans (hqw5.mono hbs)⟩
        case measure => simp [intOf]; omega
    · have hkn : k = n := by omega
      have hfin : tfind l x = (s, b) := by rw [← hf.out, List.take_of_length_le (by omega)]
      have Hfin := Lib.hid hfin
      clear hfin hf
      rcases hz with ⟨rfl, rfl, rfl⟩ | ⟨rfl, j, rfl, hjn, Hs⟩
      · go_wp2_with ((with_reducible refine on_store ?_); refine wr_store (r := Ru.zero) (s := Ru.zero) rfl _ _ _ rfl st_rule rfl rfl hbox ?_; intro w3 hz3 hg3)
        obtain ⟨e0, e1, e2, e3⟩ := hz3.rule
        refine bodyPost_ret (v := .tuple #[.agg #[.int .u32 Ru.zero.a, .int .i64 Ru.zero.n, .int .i64 Ru.zero.act, .int .i64 Ru.zero.next], .bool false]) ?_ rfl ⟨(by rw [Hfin.out]), hb.trans (below_of_grown hg3 (by intro g e; injection e with e; omega) hb.size)⟩
        simp [results, Try.results42, go_sem, e0, e1, e2, e3]
      · have hjl : decide ((j : Int) < 0) = false := decide_eq_false (by omega)
        go_wp2_with (first
          | ((with_reducible refine on_index (.tmp 47) ?_); refine wm_at Ru.cs_length rfl _ _ _ rfl el_rule rfl rfl (by omega) (by omega) hrk ?_; intro b1 j1 r1 hr1 hb1 hc1; have hxx : s = r1 := get_eq Hs.out hr1.out (by omega); subst hxx)
          | ((with_reducible refine on_load (.tmp 49) ?_); refine wr_load rfl _ _ rfl st_rule rfl hc1 ?_)
          | ((with_reducible refine on_store ?_); refine wr_store (r := Ru.zero) (s := s) rfl _ _ _ rfl st_rule rfl rfl hbox ?_; intro w3 hz3 hg3))
        obtain ⟨e0, e1, e2, e3⟩ := hz3.rule
        refine bodyPost_ret (v := .tuple #[.agg #[.int .u32 s.a, .int .i64 s.n, .int .i64 s.act, .int .i64 s.next], .bool true]) ?_ rfl ⟨(by rw [Hfin.out]), hb.trans (below_of_grown hg3 (by intro g e; injection e with e; omega) hb.size)⟩
        simp [results, Try.results42, go_sem, e0, e1, e2, e3]
theorem rnext_any (A : Option Addr) (n c : Nat) (l : List Ru) (x : Int) (w : World) (hm : n ≤ 9223372036854775807) (B : Nat) (hr : RdM Ru.cs w B A n c l) (hok : ∀ r ∈ l, r.Ok) (hx : 0 ≤ x ∧ x ≤ 4294967295) :
    Calls Try.prog 34 #[.slice A n c, .int .u32 x] w (RetIB (tnext l x) w) := by
  have hc := rfind_any A n c l x w hm B hr hok hx
  obtain ⟨best, b, hp⟩ : ∃ best b, tfind l x = (best, b) := ⟨_, _, rfl⟩
  have hn : tnext l x = if b = true ∧ best.act = 1 then (best.next, true) else (0, false) := by unfold tnext; rw [hp]
  have hways : (b = false ∧ tnext l x = (0, false)) ∨ (b = true ∧ (best.act != 1) = true ∧ tnext l x = (0, false)) ∨ (b = true ∧ (best.act != 1) = false ∧ tnext l x = (best.next, true)) := by
    rw [hn]
    cases b
    · simp
    · by_cases h : best.act = 1 <;> simp [h]
  have Hc := Lib.hid hc
  rw [hp] at Hc
  clear hc hn hp
  generalize tnext l x = v at *
  rcases hways with ⟨rfl, rfl⟩ | ⟨rfl, h, rfl⟩ | ⟨rfl, h, rfl⟩
  all_goals go_enter Try.func34, Try.ntmps34
  all_goals go_wp2_with (go_at_call 42; refine Hc.out.mono ?_; rintro e w1 ⟨rfl, hb1⟩)
  all_goals go_ret2
  all_goals exact ⟨rfl, hb1.alloc hb1.size _⟩
set_option maxHeartbeats 2000000 in
theorem rtmay_any (A : Option Addr) (n c : Nat) (l : List Ru) (nodes : Int) (w : World) (hm : n ≤ 9223372036854775807) (B : Nat) (hr : RdM Ru.cs w B A n c l) (hok : ∀ r ∈ l, r.Ok) :
    Calls Try.prog 33 #[.slice A n c, .int .i64 nodes] w (RetB (.int .i64 (tmay l nodes)) w) := by
  have Hok := Lib.hid hok
  clear hok
  go_enter Try.func33, Try.ntmps33
  go_wp2
  go_loopw [5] (fun i wr => MayRel l nodes n w i wr) (fun i _ => n - (intOf i).toNat)
  case atStart => exact ⟨0, by omega, rfl, rfl, Below.refl _ _⟩
  case round =>
    obtain ⟨k, hk, rfl, hf, hb⟩ := hrel
    have hrk := hr.step hb
    have hlen := hrk.len
    have hbs := hb.size
    by_cases hlt : k < n
    · obtain ⟨r, hr0⟩ : ∃ r, l[k]? = some r := ⟨l[k]'(by omega), List.getElem?_eq_getElem _⟩
      have hro := Hok.out r (List.mem_of_getElem? hr0)
      have Hro := Lib.hid hro
      have Hr := Lib.hid hr0
      obtain ⟨e, he⟩ : ∃ e, r.may nodes = e := ⟨_, rfl⟩
      have He := Lib.hid he
      clear hr0 hro he
      by_cases hz : e = 0
      · subst hz
        rcases Nat.eq_zero_or_pos k with h0 | h0
        · subst h0
          have h5 := Lib.hid (hf.out.trans (tmay_first Hr.out He.out))
          clear hf
          go_wp2_with (first
            | ((with_reducible refine on_index (.tmp 13) ?_); refine wm_at Ru.cs_length rfl _ _ _ rfl el_rule rfl rfl (by omega) (by omega) hrk ?_; intro b1 j1 r1 hr1 hb1 hc1; have hxx : r = r1 := (by have e := hr1.out; rw [Int.toNat_natCast, Hr.out] at e; injection e); subst hxx)
            | ((with_reducible refine on_load (.tmp 15) ?_); refine wr_load rfl _ _ rfl st_rule rfl hc1 ?_)
            | (go_at_call 41; refine (rmay_is r nodes _ Hro.out 0 He.out).mono ?_; rintro y w1 ⟨rfl, hb1⟩))
          refine wp_region_reach (by kernel_rfl) (by kernel_rfl) ?_
          repeat (first | go_big_quiet_skip | go_big_quiet_step (fail) | quiet_step (fail))
          refine wpQuiet_nil ?_
          rintro _ ⟨q, rfl⟩
          have hqw5 := q.h
          obtain ⟨w5, hw5'⟩ : ∃ W, q.w = W := ⟨_, rfl⟩
          rw [hw5'] at hqw5 ⊢
          clear hw5' q
          go_wp2
          go_roundw
          case rel => exact ⟨0 + 1, by omega, by go_num, h5.out, (hb.trans (hb1.mono hbs)).trans (hqw5.mono (by have := hb1.size; omega))⟩
          case measure => simp [intOf]; omega
        · obtain ⟨k, rfl⟩ : ∃ j, k = j + 1 := ⟨k - 1, by omega⟩
          obtain ⟨q, hq0⟩ : ∃ q, l[k]? = some q := ⟨l[k]'(by omega), List.getElem?_eq_getElem _⟩
          have Hqo := Lib.hid (Hok.out q (List.mem_of_getElem? hq0))
          have Hq := Lib.hid hq0
          obtain ⟨v, hv⟩ : ∃ v, r.cmp q = v := ⟨_, rfl⟩
          have hvw : ((v != 1) = true ∧ tmay l nodes = 11) ∨ ((v != 1) = false ∧ tmay l nodes = tmayGo nodes (aheadOf l (k + 1 + 1)) (l.drop (k + 1 + 1))) := by
            by_cases h1 : v = 1
            · exact .inr ⟨by simp [h1], hf.out.trans (tmay_on Hr.out hq0 He.out (by rw [hv]; exact h1))⟩
            · exact .inl ⟨by simp [h1], hf.out.trans (tmay_order Hr.out hq0 He.out (by rw [hv]; exact h1))⟩
          have Kcmp := Lib.hid (fun W => (show Calls Try.prog 36 #[.agg #[.int .u32 r.a, .int .i64 r.n, .int .i64 r.act, .int .i64 r.next], .agg #[.int .u32 q.a, .int .i64 q.n, .int .i64 q.act, .int .i64 q.next]] W (fun x w' => x = .returned (.int .i64 v) ∧ Below W.heap.size W w') from by rw [← hv]; exact rrcmp_any r q W))
          clear hf hq0 hv
          rcases hvw with ⟨hv1, h5⟩ | ⟨hv1, h5⟩
          all_goals
            have H5 := Lib.hid h5
            clear h5
            go_wp2_with (first
              | ((with_reducible refine on_index (.tmp 13) ?_); refine wm_at Ru.cs_length rfl _ _ _ rfl el_rule rfl rfl (by omega) (by omega) hrk ?_; intro b1 j1 r1 hr1 hb1 hc1; have hxx : r = r1 := get_eq Hr.out hr1.out (by omega); subst hxx)
              | ((with_reducible refine on_load (.tmp 15) ?_); refine wr_load rfl _ _ rfl st_rule rfl hc1 ?_)
              | (go_at_call 41; refine (rmay_is r nodes _ Hro.out 0 He.out).mono ?_; rintro y w1 ⟨rfl, hb1⟩))
            have hx1 := (hrk.step hb1).reach
            have hb2 := hb.trans (hb1.mono hbs)
            refine wp_region_reach (by kernel_rfl) (by kernel_rfl) ?_
            repeat (first | go_big_quiet_skip | ((with_reducible refine onq_index (.tmp 25) ?_); refine wqr_at rfl _ (.tmp 25) _ rfl el_rule rfl rfl (by omega) (by omega) (Th.Reach.refl _ _) hx1 ?_; intro b3 j3 t3 ht3 hc3; have hxx : r = t3 := get_eq Hr.out ht3.out (by omega); subst hxx) | ((with_reducible refine onq_load (.tmp 27) ?_); refine wqr_load rfl _ (.tmp 27) rfl st_rule rfl hc3 ?_) | ((with_reducible refine onq_index (.tmp 29) ?_); refine wqr_at rfl _ (.tmp 29) _ rfl el_rule rfl rfl (by omega) (by omega) (Th.Reach.refl _ _) hx1 ?_; intro b2 j2 t2 ht2 hc2; have hxx : q = t2 := get_eq Hq.out ht2.out (by omega); subst hxx) | ((with_reducible refine onq_load (.tmp 32) ?_); refine wqr_load rfl _ (.tmp 32) rfl st_rule rfl hc2 ?_) | go_big_quiet_step (exact Calls.reach (Kcmp.out _)) | quiet_step (exact Calls.reach (Kcmp.out _)))
            refine wpQuiet_nil ?_
            rintro _ ⟨q, rfl⟩
            have hqw5 := q.h
            obtain ⟨w5, hw5'⟩ : ∃ W, q.w = W := ⟨_, rfl⟩
            rw [hw5'] at hqw5 ⊢
            clear hw5' q
            have hb3 := hb2.trans (hqw5.mono hb2.size)
            go_wp2
          · go_ret
            exact ⟨(by rw [H5.out]; try rfl), hb3⟩
          · go_roundw
            case rel => exact ⟨k + 1 + 1, by omega, by go_num, H5.out, hb3⟩
            case measure => simp [intOf]; omega
      · have h5 := Lib.hid (hf.out.trans (tmay_bad Hr.out (by rw [He.out]; exact hz) _))
        have hz' : (e != 0) = true := by simp [hz]
        clear hf
        go_wp2_with (first
          | ((with_reducible refine on_index (.tmp 13) ?_); refine wm_at Ru.cs_length rfl _ _ _ rfl el_rule rfl rfl (by omega) (by omega) hrk ?_; intro b1 j1 r1 hr1 hb1 hc1; have hxx : r = r1 := (by have e := hr1.out; rw [Int.toNat_natCast, Hr.out] at e; injection e); subst hxx)
          | ((with_reducible refine on_load (.tmp 15) ?_); refine wr_load rfl _ _ rfl st_rule rfl hc1 ?_)
          | (go_at_call 41; refine (rmay_is r nodes _ Hro.out e He.out).mono ?_; rintro e' w1 ⟨rfl, hb1⟩))
        go_ret
        exact ⟨(by rw [h5.out, He.out]; try rfl), hb.trans (hb1.mono hbs)⟩
    · have h5 : tmay l nodes = 0 := by rw [hf.out, List.drop_eq_nil_of_le (by omega)]; rfl
      have H5 := Lib.hid h5
      clear h5 hf
      go_wp2
      go_ret
      exact ⟨(by rw [H5.out]; try rfl), hb⟩
end Go.Proofs.Ytdmkiejaejlajaa
