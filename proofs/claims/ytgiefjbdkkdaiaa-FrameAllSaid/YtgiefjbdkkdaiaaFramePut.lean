/-
  The walks of frame.four, frame.Put, frame.Take, bytes.Equal.
-/
import Derived.Test.YtgiefjbdkkdaiaaFrame
import Derived.Test.YtgiefjbdkkdaiaaCrc
import Derived.Test.YtgiefjbdkkdaiaaNumRef
namespace Go.Proofs.Ytgiefjbdkkdaiaa
open Go.RowKit Go.Th
set_option linter.unusedVariables false
theorem four_any (m : Nat) (hm : m < 4294967296) (M : Int) (hM : (m : Int) = M) (w : World) : Calls Try.prog 52 #[.int .u32 M] w fun e w' => ∃ A c, e = .returned (.slice A 4 c) ∧ OwS bv w' w.heap.size 5 A 4 c (be m 4) ∧ Below w.heap.size w w' := by
  subst hM
  go_enter Try.func52, Try.ntmps52
  go_wp2_with (go_at_call 24; refine (put_nat m 4 _ (by omega) (by omega) (by omega)).mono ?_; rintro e w1 ⟨A, c, rfl, how, hb⟩)
  go_ret
  exact ⟨A, c, rfl, how, hb⟩
set_option maxHeartbeats 1000000 in
theorem fput_any (m : Nat) (hm : m < 4294967296) (M : Int) (hM : (m : Int) = M) (A : Option Addr) (n c : Nat) (w : World) (hn : n ≤ 1000000) (bs : List UInt8) (hr : RdS bv w w.heap.size A n c bs) :
    Calls Try.prog 43 #[.int .u32 M, .slice A n c] w (RetOwn (fput m bs) w) := by
  subst hM
  have hcs := csum_lt (fhead m bs)
  go_enter Try.func43, Try.ntmps43
  go_wp2_with (first
    | ((with_reducible refine on_make ?_); refine wl_make0S rfl _ _ _ rfl el_u8 (f := bv) (base := w.heap.size) (n + 8) rfl rfl (by omega) (by omega) (by omega) (Nat.le_refl _) ?_; intro g1 w1 hg1 how1 hb1)
    | (go_at_call 52; refine (four_any m hm _ rfl w1).mono ?_; rintro e w2 ⟨A2, c2, rfl, how2, hb2⟩; have how1 := how1.below hb2; have K2 := hb1.trans (hb2.mono hb1.size))
    | ((with_reducible refine on_append (.tmp 10) (.tmp 12) ?_); refine wl_appendS rfl (.tmp 10) (.tmp 12) _ rfl el_u8 (f := bv) (fun _ => rfl) rfl how1 rfl how2.rd (by omega) (by omega) K2.size ?_; intro A3 c3 w3 how3 _ hb3; have K3 := K2.trans hb3)
    | ((with_reducible refine on_append (.tmp 14) (.tmp 15) ?_); refine wl_appendS rfl (.tmp 14) (.tmp 15) _ rfl el_u8 (f := bv) (fun _ => rfl) rfl how3 rfl (hr.step K3) (by omega) (by omega) K3.size ?_; intro A4 c4 w4 how4 _ hb4; have K4 := K3.trans hb4))
  refine (sum_any A4 _ c4 w4 (by omega) _ how4.rd).mono ?_
  rintro e w5 ⟨rfl, hb5⟩
  have how5 := how4.below hb5
  have K5 := K4.trans (hb5.mono K4.size)
  have e5 : [] ++ be m 4 ++ bs = fhead m bs := rfl
  rw [e5] at how5
  go_wp2_with fail
  refine (four_any (csum (fhead m bs)) hcs _ rfl w5).mono ?_
  rintro e w6 ⟨A6, c6, rfl, how6, hb6⟩
  have how7 := how5.below hb6
  have K6 := K5.trans (hb6.mono K5.size)
  go_wp2_with ((with_reducible refine on_append (.tmp 17) (.tmp 20) ?_); refine wl_appendS rfl (.tmp 17) (.tmp 20) _ rfl el_u8 (f := bv) (fun _ => rfl) rfl how7 rfl how6.rd (by omega) (by omega) K6.size ?_; intro A8 c8 w8 how8 _ hb8)
  go_ret
  exact ⟨A8, _, c8, rfl, how8, K6.trans hb8⟩
theorem equal_any (A : Option Addr) (n c : Nat) (A' : Option Addr) (n' c' : Nat) (w : World) (B B' : Nat) (bs cs : List UInt8) (hr : RdS bv w B A n c bs) (hr' : RdS bv w B' A' n' c' cs) (b : Bool) (hb : (bs == cs) = b) :
    Calls Try.prog 53 #[.slice A n c, .slice A' n' c'] w fun e w' => e = .returned (.bool b) ∧ w = w' := by
  go_enter Try.func53, Try.ntmps53
  go_wp2_with (first
    | ((with_reducible refine on_convert (.tmp 5) ?_); refine wl_strS rfl _ _ (.tmp 5) rfl el_u8 Try.underlying5 Try.underlying9 rfl hr ?_)
    | ((with_reducible refine on_convert (.tmp 7) ?_); refine wl_strS rfl _ _ (.tmp 7) rfl el_u8 Try.underlying5 Try.underlying9 rfl hr' ?_))
  go_ret
  exact ⟨rfl, rfl⟩
/-- What is taken: a row of the call's own, and an error's number. -/
def RetTak (r : List UInt8 × Int) (w : World) (e : Ending) (w' : World) : Prop :=
  ∃ A n c, e = .returned (.tuple #[.slice A n c, .int .i64 r.2]) ∧ OwS bv w' w.heap.size 5 A n c r.1 ∧ Below w.heap.size w w'
set_option maxHeartbeats 2000000 in
theorem ftake_any (m : Nat) (hm : m < 4294967296) (M : Int) (hM : (m : Int) = M) (A : Option Addr) (n c : Nat) (w : World) (hn : n ≤ 1000000) (bs : List UInt8) (hr : RdS bv w w.heap.size A n c bs) :
    Calls Try.prog 44 #[.int .u32 M, .slice A n c] w (RetTak (ftake m bs) w) := by
  subst hM
  have hl := hr.len
  by_cases h8 : n < 8
  · rw [ftake_short (by omega)]
    go_enter Try.func44, Try.ntmps44
    go_wp2
    go_ret2
    exact ⟨none, 0, 0, rfl, OwS.nil_ _ _ _, Below.refl _ _⟩
  · obtain ⟨xh, hh⟩ : ∃ xh, bs.take (n - 4) = xh := ⟨_, rfl⟩
    obtain ⟨xs, hs⟩ : ∃ xs, bs.drop (n - 4) = xs := ⟨_, rfl⟩
    have lh : xh.length = n - 4 := by rw [← hh, List.length_take]; omega
    have ls : xs.length = 4 := by rw [← hs, List.length_drop]; omega
    have hcs := csum_lt xh
    rw [ftake_parts (h := xh) (s := xs) (by omega) ls (by rw [← hh, ← hs, List.take_append_drop])]
    obtain ⟨b1, hb1⟩ : ∃ b, (xh.take 4 == be m 4) = b := ⟨_, rfl⟩
    obtain ⟨b2, hb2⟩ : ∃ b, (xs == be (csum xh) 4) = b := ⟨_, rfl⟩
    have hgoal : (if xh.take 4 = be m 4 then (if xs = be (csum xh) 4 then (xh.drop 4, (0 : Int)) else ([], 6)) else ([], 5)) = if b1 = true then (if b2 = true then (xh.drop 4, 0) else ([], 6)) else ([], 5) := by
      rw [← hb1, ← hb2]
      simp only [beq_iff_eq]
    rw [hgoal]
    obtain ⟨r, hr0⟩ : ∃ r, (if b1 = true then (if b2 = true then (xh.drop 4, (0 : Int)) else ([], 6)) else ([], 5)) = r := ⟨_, rfl⟩
    rw [hr0]
    have HR := Lib.hid hr0
    have H1 := Lib.hid hb1
    have H2 := Lib.hid hb2
    have Hh := Lib.hid hh
    have Hs := Lib.hid hs
    have Lh := Lib.hid lh
    obtain ⟨n4, hn4⟩ : ∃ k, n = k + 4 := ⟨n - 4, by omega⟩
    subst hn4
    rw [Nat.add_sub_cancel] at *
    have h8i : decide ((n4 : Int) + 4 < 8) = false := decide_eq_false (by omega)
    have h8n : decide (n4 + 4 < 8) = false := decide_eq_false (by omega)
    clear hgoal hr0 hb1 hb2 hh hs lh ls
    go_enter Try.func44, Try.ntmps44
    go_wp2
    have q1 := RdC.of_reach (B' := w.heap.size) (hr.step (bdrew1 w)) (Nat.le_refl _)
    refine wp_region_tree (.float 0 9 .done) (Th.Reach w.heap.size) (Th.Reach.trans _) (Th.Reach.refl _) (by kernel_rfl) (by kernel_rfl) (fun KT hKT => ?_)
    refine wpTree_float (fun KF hKF => ?_)
    simp only [List.drop, List.take]
    repeat (first | ((with_reducible refine onq_sl (.tmp 15) ?_); refine wq_cut_hm rfl _ (.tmp 15) el_u8 rfl q1 (Th.Reach.refl _ _) _ _ rfl rfl rfl n4 (by omega) ?_; intro A18 r18) | ((with_reducible refine onq_sl (.tmp 19) ?_); refine wq_cut_l rfl _ (.tmp 19) el_u8 rfl q1 (Th.Reach.refl _ _) _ rfl rfl n4 (by omega) ?_; intro A21 r21) | go_big_quiet_step (fail) | quiet_step (fail))
    refine wpQuiet_nil ?_
    refine hKF _ ?_
    clear hKF KF
    refine wpTree_done ?_
    refine hKT _ _ ?_
    clear hKT KT
    have ra := r18.rd w.drew (Th.Reach.refl _ _)
    have rs := r21.rd w.drew (Th.Reach.refl _ _)
    rw [Hh.out] at ra
    rw [Hs.out, show n4 + 4 - n4 = 4 by omega] at rs
    have B1 : Below w.heap.size w w.drew := bdrew1 w
    clear q1 r18 r21 hr
    generalize w.drew = w1 at B1 ra rs ⊢
    have z1 := B1.size
    go_wp2
    have q2 := RdC.of_reach (B' := w1.heap.size) (ra.step (bdrew1 w1)) z1
    refine wp_region_tree (.float 0 3 (.one 3 (.one 4 (.float 5 1 .done)))) (Th.Reach w1.heap.size) (Th.Reach.trans _) (Th.Reach.refl _) (by kernel_rfl) (by kernel_rfl) (fun KT hKT => ?_)
    refine wpTree_float (fun KF hKF => ?_)
    simp only [List.drop, List.take]
    repeat (first | ((with_reducible refine onq_sl (.tmp 22) ?_); refine wq_cut_hm rfl _ (.tmp 22) el_u8 rfl q2 (Th.Reach.refl _ _) _ _ rfl rfl rfl 4 (by omega) ?_; intro A23 r23) | go_big_quiet_step (fail) | quiet_step (fail))
    refine wpQuiet_nil ?_
    refine hKF _ ?_
    clear hKF KF
    refine wpTree_one (fun KO hKO => ?_)
    simp only [List.drop, List.take]
    go_wp2_with (first | (go_at_call 52; refine (four_any m hm _ rfl w1.drew).mono ?_; rintro e w3 ⟨A3, c3, rfl, how3, hb3⟩; have hb3 : Below w1.heap.size w1.drew w3 := hb3) | (go_at_call 53; refine (equal_any _ _ _ _ _ _ w3 _ _ _ _ (r23.rd w3 (Th.Reach.of hb3)) how3.rd b1 H1.out).mono ?_; rintro e w4 ⟨rfl, rfl⟩))
    refine anch_end (Th.Reach.of (by first | exact Below.refl _ _ | exact below_alloc _ (by first | omega | (simp; done) | (simp; omega)) _ | exact below_alloc2 _ (by first | omega | (simp; done) | (simp; omega)) _ _ | exact below_alloc2d _ (by simp) _ _ | exact bdrew _ _ | assumption | (exact Below.mono (by assumption) (by first | (simp; done) | (simp; omega) | omega | assumption)))) (hKO _ _ ?_)
    clear hKO KO
    refine wpTree_one (fun KO hKO => ?_)
    simp only [List.drop, List.take]
    go_wp2_with (first | (go_at_call 52; refine (four_any m hm _ rfl w1.drew).mono ?_; rintro e w3 ⟨A3, c3, rfl, how3, hb3⟩; have hb3 : Below w1.heap.size w1.drew w3 := hb3) | (go_at_call 53; refine (equal_any _ _ _ _ _ _ w3 _ _ _ _ (r23.rd w3 (Th.Reach.of hb3)) how3.rd b1 H1.out).mono ?_; rintro e w4 ⟨rfl, rfl⟩))
    refine anch_end (Th.Reach.of (by first | exact Below.refl _ _ | exact below_alloc _ (by first | omega | (simp; done) | (simp; omega)) _ | exact below_alloc2 _ (by first | omega | (simp; done) | (simp; omega)) _ _ | exact below_alloc2d _ (by simp) _ _ | exact bdrew _ _ | assumption | (exact Below.mono (by assumption) (by first | (simp; done) | (simp; omega) | omega | assumption)))) (hKO _ _ ?_)
    clear hKO KO
    refine wpTree_float (fun KF hKF => ?_)
    simp only [List.drop, List.take]
    repeat (first | ((with_reducible refine onq_sl (.tmp 22) ?_); refine wq_cut_hm rfl _ (.tmp 22) el_u8 rfl q2 (Th.Reach.refl _ _) _ _ rfl rfl rfl 4 (by omega) ?_; intro A23 r23) | go_big_quiet_step (fail) | quiet_step (fail))
    refine wpQuiet_nil ?_
    refine hKF _ ?_
    clear hKF KF
    refine wpTree_done ?_
    refine hKT _ _ ?_
    clear hKT KT
    have B3 := B1.trans (((bdrew1 w1).trans hb3).mono z1)
    have z3 := B3.size
    have ra := ra.step ((bdrew1 w1).trans hb3)
    have rs := rs.step ((bdrew1 w1).trans hb3)
    clear q2 r23 how3 hb3 B1
    cases b1 with
    | false =>
      go_wp2
      go_ret2
      rw [← HR.out]
      exact ⟨none, 0, 0, rfl, OwS.nil_ _ _ _, B3⟩
    | true =>
      go_wp2_with fail
      refine (sum_any A18 _ _ w3 (by omega) _ (ra.more z3)).mono ?_
      rintro e w5 ⟨rfl, hb5⟩
      have ra := ra.step hb5
      have rs := rs.step hb5
      have B5 := B3.trans (hb5.mono z3)
      have z5 := B5.size
      go_wp2_with fail
      refine (four_any (csum xh) hcs _ rfl w5).mono ?_
      rintro e w6 ⟨A6, c6, rfl, how6, hb6⟩
      have ra := ra.step hb6
      have rs := rs.step hb6
      have B6 := B5.trans (hb6.mono z5)
      have z6 := B6.size
      go_wp2_with fail
      refine (equal_any _ _ _ _ _ _ w6 _ _ _ _ rs how6.rd b2 H2.out).mono ?_
      rintro e w7 ⟨rfl, rfl⟩
      cases b2 with
      | false =>
        go_wp2
        go_ret2
        rw [← HR.out]
        exact ⟨none, 0, 0, rfl, OwS.nil_ _ _ _, B6⟩
      | true =>
        have ht : xh.take n4 = xh := List.take_of_length_le (by rw [Lh.out]; exact Nat.le_refl _)
        go_wp2_with ((with_reducible refine on_slice (.tmp 34) ?_); refine wl_cut_lhm rfl _ (.tmp 34) el_u8 rfl ra _ _ _ rfl rfl rfl rfl 4 n4 n4 (by omega) ?_; intro A9 r9; rw [ht] at r9)
        go_wp2_with fail
        refine (own_any _ _ _ w6 (by omega) _ _ r9).mono ?_
        rintro e w8 ⟨A8, n8, c8, rfl, how8, hb8⟩
        go_wp2
        go_ret2
        rw [← HR.out]
        exact ⟨A8, n8, c8, rfl, how8.base_le z6, B6.trans (hb8.mono z6)⟩
end Go.Proofs.Ytgiefjbdkkdaiaa
