/-
  theseuslaw04.FrameTaken: the walk.
-/
import Derived.Test.YtgiefjbdkkdaiaaFramePut
import Derived.Test.YtgiefjbdkkdaiaaFrameLaw
import Derived.Deep.DeepCutAuto
namespace Go.Proofs.Ytgiefjbdkkdaiaa
open Go.RowKit Go.Th
set_option linter.unusedVariables false
theorem ftake_isT (m : Nat) (hm : m < 4294967296) (M : Int) (hM : (m : Int) = M) (A : Option Addr) (n c : Nat) (w : World) (hn : n ≤ 1000000) (bs : List UInt8) (hr : RdS bv w w.heap.size A n c bs) (x : List UInt8) (er : Int) (h : ftake m bs = (x, er)) :
    Calls Try.prog 44 #[.int .u32 M, .slice A n c] w fun e w' => ∃ A' n' c', e = .returned (.tuple #[.slice A' n' c', .int .i64 er]) ∧ OwS bv w' w.heap.size 5 A' n' c' x ∧ Below w.heap.size w w' := by
  have := ftake_any m hm M hM A n c w hn bs hr
  rw [h] at this
  exact this
set_option maxRecDepth 100000 in
set_option maxHeartbeats 4000000 in
theorem frameTaken_walk (A : Option Addr) (n c : Nat) (bs : List UInt8) {w : World} (hr : RdS bv w w.heap.size A n c bs) (hm : n ≤ 9223372036854775807) (mg : Int) (hmg : 0 ≤ mg ∧ mg ≤ 4294967295) :
    Calls Try.prog 22 #[.slice A n c, .int .u32 mg] w fun e w' => e = .returned (.bool true) ∧ Below w.heap.size w w' := by
  obtain ⟨m, rfl⟩ := Int.eq_ofNat_of_zero_le hmg.1
  have hm2 : m < 4294967296 := by omega
  obtain ⟨N, hN, hN1⟩ : ∃ N, min n 150 = N ∧ N ≤ 150 := ⟨_, rfl, by omega⟩
  obtain ⟨wa, hwa⟩ : ∃ x, bs.take 150 = x := ⟨_, rfl⟩
  have hla : wa.length = N := by rw [← hwa, List.length_take, hr.len, Nat.min_comm]; exact hN
  obtain ⟨x, er, hx⟩ : ∃ x er, ftake m wa = (x, er) := ⟨_, _, rfl⟩
  obtain ⟨y, g, hy⟩ : ∃ y g, ftake m (wa ++ be (csum wa) 4) = (y, g) := ⟨_, _, rfl⟩
  have hall := ftake_all hm2 wa
  rw [hy, hla] at hall
  have hcs := csum_lt wa
  have HN := Lib.hid hN
  have Hwa := Lib.hid hwa
  have La := Lib.hid hla
  have Hx := Lib.hid hx
  have Hy := Lib.hid hy
  have Hall := Lib.hid hall
  clear hN hwa hla hmg hx hy hall
  go_enter Try.func22, Try.ntmps22
  go_wp2_with fail
  refine (shown4 _).mono ?_
  rintro e w1 ⟨rfl, hb1⟩
  have hr1 := hr.step hb1
  have z1 := hb1.size
  have r1 := fewR HN.out hr1
  rw [Hwa.out] at r1
  go_wp2_with fail
  refine (few4 _ _ _ N HN.out _ hm _ _ hr1).mono ?_
  rintro e w2 ⟨rfl, rfl⟩
  go_wp2_with fail
  refine (ftake_isT m hm2 _ rfl _ _ _ _ (by omega) _ (r1.more z1) _ _ Hx.out).mono ?_
  rintro e w3 ⟨A3, n3, c3, rfl, how3, hb3⟩
  have r3 := r1.step hb3
  have B3 := hb1.trans (hb3.mono z1)
  have z3 := B3.size
  clear hr hr1 r1 hb1 hb3
  go_upto_region 4 with fail
  go_cut [36] (fun s36 wx => s36 = .bool false ∧ Below w3.heap.size w3 wx)
  case first =>
    have hcases : er = 0 ∨ ((er == 0) = false ∧ decide (er = 0) = false ∧ ¬ er = 0) := by
      by_cases h : er = 0
      · exact .inl h
      · exact .inr ⟨by simp [h], by simp [h], h⟩
    rcases hcases with rfl | ⟨h0, h0b, h0c⟩
    · have hput := Lib.hid (fput_ftake Hx.out)
      have ln : n3 ≤ 1000 := by
        have := congrArg List.length hput.out
        rw [fput_length] at this
        have := how3.len
        have := La.out
        omega
      refine wp_region_tree (.float 0 5 (.float 7 2 (.one 5 (.float 6 1 (.float 9 2 .done))))) Th.Grow Th.Grow.trans Th.Grow.refl (by kernel_rfl) (by kernel_rfl) (fun KT hKT => ?_)
      refine wpTree_float (fun KF hKF => ?_)
      simp only [List.drop, List.take]
      repeat (first | ((with_reducible refine onq_cv (.tmp 31) ?_); refine wq_strS rfl _ _ (.tmp 31) rfl el_u8 Try.underlying5 Try.underlying9 rfl p4 ?_) | ((with_reducible refine onq_cv (.tmp 33) ?_); refine wq_strS rfl _ _ (.tmp 33) rfl el_u8 Try.underlying5 Try.underlying9 rfl (r3.step (bdrew1 w3)).reach ?_) | go_big_quiet_step (fail) | quiet_step (fail))
      refine wpQuiet_nil ?_
      refine hKF _ ?_
      clear hKF KF
      refine wpTree_float (fun KF hKF => ?_)
      simp only [List.drop, List.take]
      repeat (first | ((with_reducible refine onq_cv (.tmp 31) ?_); refine wq_strS rfl _ _ (.tmp 31) rfl el_u8 Try.underlying5 Try.underlying9 rfl p4 ?_) | ((with_reducible refine onq_cv (.tmp 33) ?_); refine wq_strS rfl _ _ (.tmp 33) rfl el_u8 Try.underlying5 Try.underlying9 rfl (r3.step (bdrew1 w3)).reach ?_) | go_big_quiet_step (fail) | quiet_step (fail))
      refine wpQuiet_nil ?_
      refine hKF _ ?_
      clear hKF KF
      refine wpTree_one (fun KO hKO => ?_)
      simp only [List.drop, List.take]
      go_wp2_with (first | (go_at_call 43; refine (fput_any m hm2 _ rfl _ _ _ w3.drew (by omega) _ (how3.drewN 1).rd).mono ?_; rintro e w4 ⟨A4, n4, c4, rfl, how4, hb4⟩; have hb4 : Below w3.heap.size w3.drew w4 := hb4; have z4 : w3.heap.size ≤ w4.heap.size := hb4.size; rw [hput.out] at how4; have p4 := how4.rd.reach))
      refine anch_end (Th.Reach.of (by first | exact Below.refl _ _ | exact below_alloc _ (by first | omega | (simp; done) | (simp; omega)) _ | exact below_alloc2 _ (by first | omega | (simp; done) | (simp; omega)) _ _ | exact below_alloc2d _ (by simp) _ _ | exact bdrew _ _ | assumption | (exact Below.mono (by assumption) (by first | (simp; done) | (simp; omega) | omega | assumption)))) (hKO _ _ ?_)
      clear hKO KO
      refine wpTree_float (fun KF hKF => ?_)
      simp only [List.drop, List.take]
      repeat (first | ((with_reducible refine onq_cv (.tmp 31) ?_); refine wq_strS rfl _ _ (.tmp 31) rfl el_u8 Try.underlying5 Try.underlying9 rfl p4 ?_) | ((with_reducible refine onq_cv (.tmp 33) ?_); refine wq_strS rfl _ _ (.tmp 33) rfl el_u8 Try.underlying5 Try.underlying9 rfl (r3.step (bdrew1 w3)).reach ?_) | go_big_quiet_step (fail) | quiet_step (fail))
      refine wpQuiet_nil ?_
      refine hKF _ ?_
      clear hKF KF
      refine wpTree_float (fun KF hKF => ?_)
      simp only [List.drop, List.take]
      repeat (first | ((with_reducible refine onq_cv (.tmp 31) ?_); refine wq_strS rfl _ _ (.tmp 31) rfl el_u8 Try.underlying5 Try.underlying9 rfl p4 ?_) | ((with_reducible refine onq_cv (.tmp 33) ?_); refine wq_strS rfl _ _ (.tmp 33) rfl el_u8 Try.underlying5 Try.underlying9 rfl (r3.step (bdrew1 w3)).reach ?_) | go_big_quiet_step (fail) | quiet_step (fail))
      refine wpQuiet_nil ?_
      refine hKF _ ?_
      clear hKF KF
      refine wpTree_done ?_
      refine hKT _ _ ?_
      clear hKT KT
      go_wp2
      go_meet
      case rel => exact ⟨rfl, (bdrew1 w3).trans hb4⟩
    · refine wp_region_reach (by kernel_rfl) (by kernel_rfl) ?_
      repeat (first | go_big_quiet_step (fail) | quiet_step (fail))
      refine wpQuiet_nil ?_
      rintro _ ⟨q, rfl⟩
      have hqw4 := q.h
      obtain ⟨w4, hw4'⟩ : ∃ W, q.w = W := ⟨_, rfl⟩
      rw [hw4'] at hqw4 ⊢
      clear hw4' q
      go_wp2
      go_meet
      case rel => exact ⟨rfl, hqw4⟩
  case rest =>
    obtain ⟨rfl, hbc⟩ := hcut
    have B4 := B3.trans (hbc.mono z3)
    have z4 := B4.size
    have r4 := r3.step hbc
    clear how3 r3 B3 hbc
    go_wp2_with fail
    refine (sum_any _ _ _ _ (by omega) _ (r4.more z4)).mono ?_
    rintro e w5 ⟨rfl, hb5⟩
    have r5 := r4.step hb5
    have B5 := B4.trans (hb5.mono z4)
    have z5 := B5.size
    go_wp2_with fail
    refine (put_nat (csum wa) 4 _ (by omega) (by omega) (by omega)).mono ?_
    rintro e w6 ⟨A6, c6, rfl, how6, hb6⟩
    have r6 := r5.step hb6
    have B6 := B5.trans (hb6.mono z5)
    have z6 := B6.size
    go_wp2_with (first
      | ((with_reducible refine on_append (.tmp 44) (.tmp 45) ?_); refine wl_appendS rfl (.tmp 44) (.tmp 45) _ rfl el_u8 (f := bv) (fun _ => rfl) rfl (OwS.lit (base := w6.heap.size) (e := 5) (xs := []) w6 #[] 0 (Nat.le_refl _) (by simp [maxLen]) rfl rfl) rfl (r6.alloc _) (by omega) (by omega) (by simp) ?_; intro A7 c7 w7 how7 _ hb7; rw [Nat.zero_add, List.nil_append] at how7; have H7 : Below w6.heap.size w6 w7 := (below_alloc w6 (Nat.le_refl _) _).trans hb7)
      | ((with_reducible refine on_append (.tmp 46) (.tmp 47) ?_); refine wl_appendS rfl (.tmp 46) (.tmp 47) _ rfl el_u8 (f := bv) (fun _ => rfl) rfl how7 rfl (how6.below H7).rd (by omega) (by omega) H7.size ?_; intro A8 c8 w8 how8 _ hb8; have H8 := H7.trans hb8))
    have r8 := r6.step H8
    have B8 := B6.trans (H8.mono z6)
    have z8 := B8.size
    clear how7 how6
    refine (ftake_isT m hm2 _ rfl _ _ _ w8 (by omega) _ how8.rd _ _ Hy.out).mono ?_
    rintro e w9 ⟨A9, n9, c9, rfl, how9, hb9⟩
    have r9 := r8.step hb9
    have B9 := B8.trans (hb9.mono z8)
    have z9 := B9.size
    clear how8
    rcases Hall.out with ⟨h4, he⟩ | ⟨h4, hv, he⟩ | ⟨h4, hv, he⟩
    · injection he with e1 e2
      subst e1
      subst e2
      have e9 : n9 = 0 := how9.len.symm
      subst e9
      go_wp2_with fail
      refine (take_short _ _ _ 4 _ (by omega) (by omega) h4).mono ?_
      rintro e w10 ⟨rfl, rfl⟩
      go_wp2
      go_ret
      exact ⟨rfl, B9⟩
    · injection he with e1 e2
      subst e1
      subst e2
      go_wp2_with fail
      refine (take_yes _ _ _ 4 _ (by omega) (by omega) h4 (by omega) _ _ r9).mono ?_
      rintro e w10 ⟨rfl, rfl⟩
      rw [hv]
      go_wp2
      have p9 := how9.rd.reach
      have q9 := r9.reach
      refine wp_region_reach (by kernel_rfl) (by kernel_rfl) ?_
      repeat (first | ((with_reducible refine onq_cv (.tmp 100) ?_); refine wq_strS rfl _ _ (.tmp 100) rfl el_u8 Try.underlying5 Try.underlying9 rfl p9 ?_) | ((with_reducible refine onq_sl (.tmp 102) ?_); refine wq_cut_l rfl _ (.tmp 102) el_u8 rfl q9 (Th.Reach.refl _ _) _ rfl rfl 4 (by omega) ?_; intro A103 r103) | ((with_reducible refine onq_cv (.tmp 103) ?_); refine wq_strS rfl _ _ (.tmp 103) rfl el_u8 Try.underlying5 Try.underlying9 rfl r103 ?_) | go_big_quiet_step (fail) | quiet_step (fail))
      refine wpQuiet_nil ?_
      rintro _ ⟨q, rfl⟩
      have hqw11 := q.h
      obtain ⟨w11, hw11'⟩ : ∃ W, q.w = W := ⟨_, rfl⟩
      rw [hw11'] at hqw11 ⊢
      clear hw11' q
      go_wp2
      go_ret
      exact ⟨rfl, B9.trans (hqw11.mono z9)⟩
    · injection he with e1 e2
      subst e1
      subst e2
      have hvi : ((val (wa.take 4) : Int) == (m : Int)) = false := by simp; omega
      have hvn : (val (wa.take 4) == m) = false := by simp; omega
      go_wp2_with fail
      refine (take_yes _ _ _ 4 _ (by omega) (by omega) h4 (by omega) _ _ r9).mono ?_
      rintro e w10 ⟨rfl, rfl⟩
      go_wp2
      refine wp_region_reach (by kernel_rfl) (by kernel_rfl) ?_
      repeat (first | go_big_quiet_step (fail) | quiet_step (fail))
      refine wpQuiet_nil ?_
      rintro _ ⟨q, rfl⟩
      have hqw11 := q.h
      obtain ⟨w11, hw11'⟩ : ∃ W, q.w = W := ⟨_, rfl⟩
      rw [hw11'] at hqw11 ⊢
      clear hw11' q
      go_wp2
      go_ret
      exact ⟨rfl, B9.trans (hqw11.mono z9)⟩
end Go.Proofs.Ytgiefjbdkkdaiaa
