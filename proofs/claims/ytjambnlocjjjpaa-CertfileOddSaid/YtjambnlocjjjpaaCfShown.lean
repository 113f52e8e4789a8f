/-
  theseuslaw18's few bytes, and its example.
-/
import Derived.Test.YtjambnlocjjjpaaCfTake
namespace Go.Proofs.Ytjambnlocjjjpaa
open Go.RowKit Go.Th
set_option linter.unusedVariables false
theorem few18 (A : Option Addr) (n c : Nat) (w : World) (hm : n ≤ 9223372036854775807) (B : Nat) (bs : List UInt8) (hr : RdS bv w B A n c bs) :
    Calls Try.prog 18 #[.slice A n c] w fun e w' => ∃ A' c' m, e = .returned (.slice A' m c') ∧ m ≤ 400 ∧ RdS bv w B A' m c' (bs.take 400) ∧ w = w' := by
  have hc := hr.cap
  by_cases h : n ≤ 400
  · have e2 : bs.take 400 = bs := List.take_of_length_le (by rw [hr.len]; omega)
    rw [e2]
    go_enter Try.func18, Try.ntmps18
    go_wp2
    go_ret
    exact ⟨A, c, n, rfl, h, hr, rfl⟩
  · go_enter Try.func18, Try.ntmps18
    go_wp2_with (refine wl_cut_h rfl _ _ el_u8 rfl hr _ rfl rfl 400 (by omega) ?_; intro A' hr')
    go_ret
    exact ⟨A', c, 400, rfl, by omega, hr', rfl⟩
theorem ex_body : cbody 2 (([] : List Pt).map pkey) 7 [0] 1 = [2, 1, 0, 0, 0, 7, 1, 0] := by decide +kernel
theorem ex_in : CIn 2 (([] : List Pt).map pkey) 7 [0] 1 := ⟨by omega, .inr ⟨rfl, rfl, by omega, by simp, by simp⟩⟩
theorem ex_may : cmay 2 [] 7 [0] 1 = 0 := by decide +kernel
set_option maxRecDepth 100000 in
set_option maxHeartbeats 2000000 in
theorem shown18 (w : World) : Calls Try.prog 8 #[] w fun e w' => e = .returned (.bool true) ∧ Below w.heap.size w w' := by
  have k0 := below_alloc w (Nat.le_refl _) (.cells #[.int .i64 0] 3)
  have ot := OwS.lit (f := iv) (base := w.heap.size) (e := 3) (xs := [(0 : Int)]) w #[.int .i64 0] 1 (Nat.le_refl _) (by simp [maxLen]) rfl rfl
  obtain ⟨fb, hfb⟩ : ∃ fb, fput 1129468977 [2, 1, 0, 0, 0, 7, 1, 0] = fb := ⟨_, rfl⟩
  have hfl : fb.length = 16 := by rw [← hfb, fput_length]; rfl
  have K1 := Lib.hid (cfput_any 2 none 0 0 7 _ 1 1 1 _ [] [0] _ (Nat.le_refl _) ⟨RdM.nil _ _, by simp, by simp⟩ ot.rd ex_in ex_may (by rw [ex_body]; decide) fb (by rw [ex_body]; exact hfb))
  have Hfb := Lib.hid hfb
  clear hfb
  go_enter Try.func8, Try.ntmps8
  go_wp2_with (go_at_call 11; refine (K1.out).mono ?_; rintro e w1 ⟨A1, n1, c1, rfl, ow1, hb1⟩)
  have hn1 := ow1.len
  have hnn : n1 = 16 := by omega
  clear hn1
  subst hnn
  have r1 := ow1.rd.step (bdrew1 w1)
  have rg1 := r1.reach
  have oq := OwS.lit (f := bv) (base := w1.heap.size) (e := 5) (xs := [2, 1, 0, 0, 0, 7, 1, 0]) w1.drew #[.int .u8 2, .int .u8 1, .int .u8 0, .int .u8 0, .int .u8 0, .int .u8 7, .int .u8 1, .int .u8 0] 8 (Nat.le_refl _) (by simp [maxLen]) rfl rfl
  have K2 := Lib.hid (fput_any 1129468977 (by omega) 1129468977 rfl _ 8 8 _ (by omega) _ oq.rd)
  rw [Hfb.out] at K2
  refine wp_region_tree (.float 0 2 (.one 2 (.one 3 (.float 4 12 .done)))) Th.Grow Th.Grow.trans Th.Grow.refl (by kernel_rfl) (by kernel_rfl) (fun KT hKT => ?_)
  refine wpTree_float (fun KF hKF => ?_)
  simp only [List.drop, List.take]
  repeat (first | go_big_quiet_skip | ((with_reducible refine onq_cv (.tmp 9) ?_); refine wq_strS rfl _ _ (.tmp 9) rfl el_u8 Try.underlying5 Try.underlying9 rfl rg1 ?_) | ((with_reducible refine onq_cv (.tmp 12) ?_); refine wq_strS rfl _ _ (.tmp 12) rfl el_u8 Try.underlying5 Try.underlying9 rfl p2 ?_) | go_big_quiet_step (fail) | quiet_step (fail))
  refine wpQuiet_nil ?_
  refine hKF _ ?_
  clear hKF KF
  refine wpTree_one (fun KO hKO => ?_)
  simp only [List.drop, List.take]
  go_wp2_with (first | (go_at_call 15; refine (K2.out).mono ?_; rintro e w2 ⟨A2, n2, c2, rfl, ow2, hb2⟩; have p2 := ow2.rd.reach))
  refine anch_end (Th.Reach.of (by first | exact Below.refl _ _ | exact below_alloc _ (by first | omega | (simp; done) | (simp; omega)) _ | exact below_alloc2 _ (by first | omega | (simp; done) | (simp; omega)) _ _ | exact below_alloc2d _ (by simp) _ _ | exact bdrew _ _ | assumption | (exact Below.mono (by assumption) (by first | (simp; done) | (simp; omega) | omega | assumption)))) (hKO _ _ ?_)
  clear hKO KO
  refine wpTree_one (fun KO hKO => ?_)
  simp only [List.drop, List.take]
  go_wp2_with (first | (go_at_call 15; refine (K2.out).mono ?_; rintro e w2 ⟨A2, n2, c2, rfl, ow2, hb2⟩; have p2 := ow2.rd.reach))
  refine anch_end (Th.Reach.of (by first | exact Below.refl _ _ | exact below_alloc _ (by first | omega | (simp; done) | (simp; omega)) _ | exact below_alloc2 _ (by first | omega | (simp; done) | (simp; omega)) _ _ | exact below_alloc2d _ (by simp) _ _ | exact bdrew _ _ | assumption | (exact Below.mono (by assumption) (by first | (simp; done) | (simp; omega) | omega | assumption)))) (hKO _ _ ?_)
  clear hKO KO
  refine wpTree_float (fun KF hKF => ?_)
  simp only [List.drop, List.take]
  repeat (first | go_big_quiet_skip | ((with_reducible refine onq_cv (.tmp 9) ?_); refine wq_strS rfl _ _ (.tmp 9) rfl el_u8 Try.underlying5 Try.underlying9 rfl rg1 ?_) | ((with_reducible refine onq_cv (.tmp 12) ?_); refine wq_strS rfl _ _ (.tmp 12) rfl el_u8 Try.underlying5 Try.underlying9 rfl p2 ?_) | go_big_quiet_step (fail) | quiet_step (fail))
  refine wpQuiet_nil ?_
  refine hKF _ ?_
  clear hKF KF
  refine wpTree_done ?_
  refine hKT _ _ ?_
  clear hKT KT
  go_wp2
  go_ret
  have z1 : w.heap.size ≤ w1.heap.size := Nat.le_trans k0.size hb1.size
  exact ⟨rfl, (((k0.trans (hb1.mono k0.size)).trans (bdrew1 w1)).trans (below_alloc w1.drew z1 _)).trans (hb2.mono (by simp; have := z1; omega))⟩
end Go.Proofs.Ytjambnlocjjjpaa
