/-
  theseuslaw04.FrameUnlike: the walk.
-/
import Derived.Test.YtgiefjbdkkdaiaaFramePut
namespace Go.Proofs.Ytgiefjbdkkdaiaa
open Go.RowKit Go.Th
set_option linter.unusedVariables false
set_option maxRecDepth 100000 in
set_option maxHeartbeats 4000000 in
theorem frameUnlike_core (A : Option Addr) (n c : Nat) (bs : List UInt8) (A' : Option Addr) (n' c' : Nat) (bs' : List UInt8) {w : World} (hr : RdS bv w w.heap.size A n c bs) (hr' : RdS bv w w.heap.size A' n' c' bs') (hm : n ≤ 9223372036854775807) (hm' : n' ≤ 9223372036854775807)
    (m0 m1 : Nat) (hm0 : m0 < 4294967296) (hm1 : m1 < 4294967296) (k0 k1 : Int) (hk0 : (m0 : Int) = k0) (hk1 : (m1 : Int) = k1) :
    Calls Try.prog 17 #[.slice A n c, .slice A' n' c', .agg #[.int .u32 k0, .int .u32 k1]] w fun e w' => e = .returned (.bool true) ∧ Below w.heap.size w w' := by
  obtain ⟨N, hN, hN1⟩ : ∃ N, min n 150 = N ∧ N ≤ 150 := ⟨_, rfl, by omega⟩
  obtain ⟨N', hN', hN1'⟩ : ∃ N, min n' 150 = N ∧ N ≤ 150 := ⟨_, rfl, by omega⟩
  obtain ⟨wa, hwa⟩ : ∃ x, bs.take 150 = x := ⟨_, rfl⟩
  obtain ⟨wb, hwb⟩ : ∃ x, bs'.take 150 = x := ⟨_, rfl⟩
  have hla : wa.length = N := by rw [← hwa, List.length_take, hr.len, Nat.min_comm]; exact hN
  have hlb : wb.length = N' := by rw [← hwb, List.length_take, hr'.len, Nat.min_comm]; exact hN'
  have lx : (fput m0 wa).length = N + 8 := by rw [fput_length, hla]
  have hways : ((k0 == k1) = false ∧ (fput m0 wa == fput m1 wb) = false) ∨ ∃ b, (k0 == k1) = true ∧ (fput m0 wa == fput m1 wb) = b ∧ (wa == wb) = b := by
    by_cases h : m0 = m1
    · right
      subst h
      refine ⟨(wa == wb), by simp [← hk0, ← hk1], ?_, rfl⟩
      rw [Bool.eq_iff_iff, beq_iff_eq, beq_iff_eq, fput_inj hm0 hm0]
      simp
    · left
      refine ⟨by rw [← hk0, ← hk1]; simp; omega, ?_⟩
      simp only [beq_eq_false_iff_ne, ne_eq]
      intro e
      exact h ((fput_inj hm0 hm1).1 e).1
  have HN := Lib.hid hN
  have HN' := Lib.hid hN'
  have Hk0 := Lib.hid hk0
  have Hk1 := Lib.hid hk1
  have Hwa := Lib.hid hwa
  have Hwb := Lib.hid hwb
  have Lx := Lib.hid lx
  have Hways := Lib.hid hways
  clear hN hN' hk0 hk1 hwa hwb hla hlb lx hways
  go_enter Try.func17, Try.ntmps17
  go_wp2_with (first
    | (go_at_call 39; refine (shown4 _).mono ?_; rintro e w1 ⟨rfl, hb1⟩))
  have bx := (Box.new w #[.int .u32 k0, .int .u32 k1] 59).step hb1
  have hr1 := (hr.step (below_alloc w (Nat.le_refl _) _)).step hb1
  have hr1' := (hr'.step (below_alloc w (Nat.le_refl _) _)).step hb1
  have hb := (below_alloc (B := w.heap.size) w (Nat.le_refl _) (.cells #[.int .u32 k0, .int .u32 k1] 59)).trans (hb1.mono (by simp))
  have r1 := fewR HN.out hr1
  have r1' := fewR HN'.out hr1'
  rw [Hwa.out] at r1
  rw [Hwb.out] at r1'
  have g0 : ∀ q : Step w1.heap.size w1.drew, q.w.cell? ⟨w.heap.size, 0, none⟩ = some (.int .u32 k0) := fun q => (bx.drew.step q.h).cell 0
  have zb := hb.size
  refine wp_region_tree (.float 0 3 (.one 3 (.one 4 (.float 5 1 .done)))) (Th.Reach w1.heap.size) (Th.Reach.trans _) (Th.Reach.refl _) (by kernel_rfl) (by kernel_rfl) (fun KT hKT => ?_)
  refine wpTree_float (fun KF hKF => ?_)
  simp only [List.drop, List.take]
  repeat (first | go_big_quiet_step (fail) | quiet_step (fail))
  refine wpQuiet_nil ?_
  refine hKF _ ?_
  clear hKF KF
  refine wpTree_one (fun KO hKO => ?_)
  simp only [List.drop, List.take]
  go_wp2_with (first | (go_at_call 41; refine (few4 _ _ _ N HN.out w1.drew hm _ _ (hr1.step (bdrew1 w1))).mono ?_; rintro e w2 ⟨rfl, rfl⟩) | (go_at_call 43; refine (fput_any m0 hm0 k0 Hk0.out _ _ _ w1.drew (by omega) _ ((r1.step (bdrew1 w1)).more zb)).mono ?_; rintro e w3 ⟨A3, n3, c3, rfl, how3, hb3⟩))
  refine anch_end (Th.Reach.of (by first | exact Below.refl _ _ | exact below_alloc _ (by first | omega | (simp; done) | (simp; omega)) _ | exact below_alloc2 _ (by first | omega | (simp; done) | (simp; omega)) _ _ | exact below_alloc2d _ (by simp) _ _ | exact bdrew _ _ | assumption | (exact Below.mono (by assumption) (by first | (simp; done) | (simp; omega) | omega | assumption)))) (hKO _ _ ?_)
  clear hKO KO
  refine wpTree_one (fun KO hKO => ?_)
  simp only [List.drop, List.take]
  go_wp2_with (first | (go_at_call 41; refine (few4 _ _ _ N HN.out w1.drew hm _ _ (hr1.step (bdrew1 w1))).mono ?_; rintro e w2 ⟨rfl, rfl⟩) | (go_at_call 43; refine (fput_any m0 hm0 k0 Hk0.out _ _ _ w1.drew (by omega) _ ((r1.step (bdrew1 w1)).more zb)).mono ?_; rintro e w3 ⟨A3, n3, c3, rfl, how3, hb3⟩))
  refine anch_end (Th.Reach.of (by first | exact Below.refl _ _ | exact below_alloc _ (by first | omega | (simp; done) | (simp; omega)) _ | exact below_alloc2 _ (by first | omega | (simp; done) | (simp; omega)) _ _ | exact below_alloc2d _ (by simp) _ _ | exact bdrew _ _ | assumption | (exact Below.mono (by assumption) (by first | (simp; done) | (simp; omega) | omega | assumption)))) (hKO _ _ ?_)
  clear hKO KO
  refine wpTree_float (fun KF hKF => ?_)
  simp only [List.drop, List.take]
  repeat (first | go_big_quiet_step (fail) | quiet_step (fail))
  refine wpQuiet_nil ?_
  refine hKF _ ?_
  clear hKF KF
  refine wpTree_done ?_
  refine hKT _ _ ?_
  clear hKT KT
  have B3 : Below w1.heap.size w1 w3 := (bdrew1 w1).trans hb3
  have z3 := B3.size
  have e3 : n3 = N + 8 := how3.len.symm.trans Lx.out
  subst e3
  have bx3 := bx.step B3
  have hr3' := hr1'.step B3
  have r3' := r1'.step B3
  have g1 : ∀ q : Step w3.heap.size w3.drew, q.w.cell? ⟨w.heap.size, 1, none⟩ = some (.int .u32 k1) := fun q => (bx3.drew.step q.h).cell 1
  go_wp2
  refine wp_region_tree (.float 0 3 (.one 3 (.one 4 (.float 5 1 .done)))) (Th.Reach w3.heap.size) (Th.Reach.trans _) (Th.Reach.refl _) (by kernel_rfl) (by kernel_rfl) (fun KT hKT => ?_)
  refine wpTree_float (fun KF hKF => ?_)
  simp only [List.drop, List.take]
  repeat (first | go_big_quiet_step (fail) | quiet_step (fail))
  refine wpQuiet_nil ?_
  refine hKF _ ?_
  clear hKF KF
  refine wpTree_one (fun KO hKO => ?_)
  simp only [List.drop, List.take]
  go_wp2_with (first | (go_at_call 41; refine (few4 _ _ _ N' HN'.out w3.drew hm' _ _ (hr3'.step (bdrew1 w3))).mono ?_; rintro e w2 ⟨rfl, rfl⟩) | (go_at_call 43; refine (fput_any m1 hm1 k1 Hk1.out _ _ _ w3.drew (by omega) _ ((r3'.step (bdrew1 w3)).more (Nat.le_trans zb z3))).mono ?_; rintro e w4 ⟨A4, n4, c4, rfl, how4, hb4⟩))
  refine anch_end (Th.Reach.of (by first | exact Below.refl _ _ | exact below_alloc _ (by first | omega | (simp; done) | (simp; omega)) _ | exact below_alloc2 _ (by first | omega | (simp; done) | (simp; omega)) _ _ | exact below_alloc2d _ (by simp) _ _ | exact bdrew _ _ | assumption | (exact Below.mono (by assumption) (by first | (simp; done) | (simp; omega) | omega | assumption)))) (hKO _ _ ?_)
  clear hKO KO
  refine wpTree_one (fun KO hKO => ?_)
  simp only [List.drop, List.take]
  go_wp2_with (first | (go_at_call 41; refine (few4 _ _ _ N' HN'.out w3.drew hm' _ _ (hr3'.step (bdrew1 w3))).mono ?_; rintro e w2 ⟨rfl, rfl⟩) | (go_at_call 43; refine (fput_any m1 hm1 k1 Hk1.out _ _ _ w3.drew (by omega) _ ((r3'.step (bdrew1 w3)).more (Nat.le_trans zb z3))).mono ?_; rintro e w4 ⟨A4, n4, c4, rfl, how4, hb4⟩))
  refine anch_end (Th.Reach.of (by first | exact Below.refl _ _ | exact below_alloc _ (by first | omega | (simp; done) | (simp; omega)) _ | exact below_alloc2 _ (by first | omega | (simp; done) | (simp; omega)) _ _ | exact below_alloc2d _ (by simp) _ _ | exact bdrew _ _ | assumption | (exact Below.mono (by assumption) (by first | (simp; done) | (simp; omega) | omega | assumption)))) (hKO _ _ ?_)
  clear hKO KO
  refine wpTree_float (fun KF hKF => ?_)
  simp only [List.drop, List.take]
  repeat (first | go_big_quiet_step (fail) | quiet_step (fail))
  refine wpQuiet_nil ?_
  refine hKF _ ?_
  clear hKF KF
  refine wpTree_done ?_
  refine hKT _ _ ?_
  clear hKT KT
  have B4 : Below w3.heap.size w3 w4 := (bdrew1 w3).trans hb4
  have z4 := B4.size
  have bx4 := bx3.step B4
  have how3 := how3.below B4
  have K4 : Below w1.heap.size w1 w4 := B3.trans (B4.mono z3)
  have px := how3.rd.reach
  have py := how4.rd.reach
  have pa := (r1.step K4).reach
  have pb := (r1'.step K4).reach
  have c0 : ∀ q : Step w4.heap.size w4, q.w.cell? ⟨w.heap.size, 0, none⟩ = some (.int .u32 k0) := fun q => (bx4.step q.h).cell 0
  have c1 : ∀ q : Step w4.heap.size w4, q.w.cell? ⟨w.heap.size, 1, none⟩ = some (.int .u32 k1) := fun q => (bx4.step q.h).cell 1
  have Hfew : Hid (∀ q : Step w4.heap.size w4, Calls Try.prog 41 #[.slice A n c] q.w (fun e w' => e = .returned (.slice (fewA A n c) N c) ∧ q.w = w')) := Lib.hid (fun q => few4 _ _ _ N HN.out q.w hm _ _ ((hr1.step K4).step q.h))
  have Hfew' : Hid (∀ q : Step w4.heap.size w4, Calls Try.prog 41 #[.slice A' n' c'] q.w (fun e w' => e = .returned (.slice (fewA A' n' c') N' c') ∧ q.w = w')) := Lib.hid (fun q => few4 _ _ _ N' HN'.out q.w hm' _ _ ((hr1'.step K4).step q.h))
  have hbz := hb.trans (K4.mono zb)
  have zz := hbz.size
  clear how3 how4 hb1 hb3 hb4 B3 B4 bx bx3 bx4 g0 g1 K4 r1 r1' hr1 hr1' r3' hr3' hr hr'
  go_wp2
  rcases Hways.out with ⟨h1, h2⟩ | ⟨b, h1, h2, h3⟩
  all_goals
    refine wp_region_reach (by kernel_rfl) (by kernel_rfl) ?_
    repeat (first | ((with_reducible refine onq_cv (.tmp 23) ?_); refine wq_strS rfl _ _ (.tmp 23) rfl el_u8 Try.underlying5 Try.underlying9 rfl px ?_) | ((with_reducible refine onq_cv (.tmp 25) ?_); refine wq_strS rfl _ _ (.tmp 25) rfl el_u8 Try.underlying5 Try.underlying9 rfl py ?_) | ((with_reducible refine onq_cv (.tmp 35) ?_); refine wq_strS rfl _ _ (.tmp 35) rfl el_u8 Try.underlying5 Try.underlying9 rfl pa ?_) | ((with_reducible refine onq_cv (.tmp 38) ?_); refine wq_strS rfl _ _ (.tmp 38) rfl el_u8 Try.underlying5 Try.underlying9 rfl pb ?_) | go_big_quiet_step (first | exact Calls.reach_same (Hfew.out _) | exact Calls.reach_same (Hfew'.out _)) | quiet_step (first | exact Calls.reach_same (Hfew.out _) | exact Calls.reach_same (Hfew'.out _)))
    refine wpQuiet_nil ?_
    rintro _ ⟨q, rfl⟩
    have hqw13 := q.h
    obtain ⟨w13, hw13'⟩ : ∃ W, q.w = W := ⟨_, rfl⟩
    rw [hw13'] at hqw13 ⊢
    clear hw13' q
    go_wp2
    go_ret
    exact ⟨rfl, hbz.trans (hqw13.mono zz)⟩
theorem frameUnlike_walk (A : Option Addr) (n c : Nat) (bs : List UInt8) {w : World} (hr : RdS bv w w.heap.size A n c bs) (hm : n ≤ 9223372036854775807) (A' : Option Addr) (n' c' : Nat) (bs' : List UInt8) (hr' : RdS bv w w.heap.size A' n' c' bs') (hm' : n' ≤ 9223372036854775807)
    (ks : List Int) (hl : ks.length = 2) (hk : ∀ z ∈ ks, 0 ≤ z ∧ z ≤ 4294967295) :
    Calls Try.prog 17 #[.slice A n c, .slice A' n' c', .agg (ks.map (Value.int .u32)).toArray] w fun e w' => e = .returned (.bool true) ∧ Below w.heap.size w w' := by
  match ks, hl, hk with
  | [k0, k1], _, hk =>
    have h0 := hk k0 (by simp)
    have h1 := hk k1 (by simp)
    exact frameUnlike_core A n c bs A' n' c' bs' hr hr' hm hm' k0.toNat k1.toNat (by omega) (by omega) k0 k1 (by omega) (by omega)
end Go.Proofs.Ytgiefjbdkkdaiaa
